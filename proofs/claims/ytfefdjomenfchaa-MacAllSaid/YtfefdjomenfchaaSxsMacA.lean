/-
  Walks by Sx; no condition beyond those that stand in each statement.
-/
import Derived.Test.YtfefdjomenfchaaSxsShaE
namespace Go.Proofs
open Go Go.Sx
set_option maxRecDepth 100000
/-- A byte, turned by another one. -/
def xb (a b : UInt8) : UInt8 := a ^^^ b
def ob (a b : UInt8) : UInt8 := a ||| b
theorem u8_xor (a b : UInt8) : Go.bits .xor .u8 (a.toNat : Int) (b.toNat : Int) = ((xb a b).toNat : Int) := by
  have h1 := a.toNat_lt
  have h2 := b.toNat_lt
  have h3 := (xb a b).toNat_lt
  have e : (BitVec.ofInt 8 (a.toNat : Int) ^^^ BitVec.ofInt 8 (b.toNat : Int)).toNat = (xb a b).toNat := by
    rw [BitVec.toNat_xor, BitVec.toNat_ofInt, BitVec.toNat_ofInt, xb, UInt8.toNat_xor]
    congr 1 <;> omega
  show IntKind.u8.wrap ((BitVec.ofInt 8 (a.toNat : Int) ^^^ BitVec.ofInt 8 (b.toNat : Int)).toNat : Nat) = _
  rw [e]
  simp [IntKind.wrap, IntKind.bits, IntKind.signed]
  omega
theorem u8_or (a b : UInt8) : Go.bits .or .u8 (a.toNat : Int) (b.toNat : Int) = ((ob a b).toNat : Int) := by
  have h1 := a.toNat_lt
  have h2 := b.toNat_lt
  have h3 := (ob a b).toNat_lt
  have e : (BitVec.ofInt 8 (a.toNat : Int) ||| BitVec.ofInt 8 (b.toNat : Int)).toNat = (ob a b).toNat := by
    rw [BitVec.toNat_or, BitVec.toNat_ofInt, BitVec.toNat_ofInt, ob, UInt8.toNat_or]
    congr 1 <;> omega
  show IntKind.u8.wrap ((BitVec.ofInt 8 (a.toNat : Int) ||| BitVec.ofInt 8 (b.toNat : Int)).toNat : Nat) = _
  rw [e]
  simp [IntKind.wrap, IntKind.bits, IntKind.signed]
  omega
attribute [local simp] xs setL_all u8_xor u8_or
variable (T : TyOk Try.prog (tyOf Try.prog Try.eqs)) (hm : Try.prog.follows .mixedOrders = true)
theorem u8s_setb (l : List UInt8) (i : Nat) (x : UInt8) : (u8s l).set i (.int .u8 x.toNat) = u8s (l.set i x) := by simp [u8s, List.map_set]
/-- A block, turned up to a place. -/
def xfront (k : List UInt8) (by' : UInt8) (i : Nat) : List UInt8 := (k.take i).map (fun x => xb x by') ++ k.drop i
def xorL (k : List UInt8) (by' : UInt8) : List UInt8 := k.map (fun x => xb x by')
theorem xfront_length (k : List UInt8) (y : UInt8) (i : Nat) : (xfront k y i).length = k.length := by simp [xfront]; omega
theorem xfront_zero (k : List UInt8) (y : UInt8) : xfront k y 0 = k := by simp [xfront]
theorem xfront_full (k : List UInt8) (y : UInt8) (n : Nat) (h : k.length ≤ n) : xfront k y n = xorL k y := by simp [xfront, xorL, List.take_of_length_le h, List.drop_eq_nil_of_le h]
theorem xfront_get (k : List UInt8) (y : UInt8) (i : Nat) (h : i < k.length) : ix (xfront k y i) i = ix k i := by
  unfold xfront
  rw [ix_eq (by simp; omega), ix_eq h, List.getElem_append_right (by simp; omega)]
  simp [Nat.min_eq_left (Nat.le_of_lt h)]
theorem xfront_set (k : List UInt8) (y : UInt8) (i : Nat) (h : i < k.length) : (xfront k y i).set i (xb (ix k i) y) = xfront k y (i + 1) := by
  unfold xfront
  rw [List.set_append_right _ _ (by simp; omega), List.take_add_one, List.getElem?_eq_getElem h, List.map_append, List.append_assoc, ix_eq h]
  congr 1
  rw [show i - (List.map (fun x => xb x y) (List.take i k)).length = 0 by simp; omega, List.drop_eq_getElem_cons h]
  rfl
include T
theorem Clip_fn (i k n c : Nat) (hn : n ≤ c) (hc : c < 9223372036854775807) (H : Heap) :
    Sx.Fn Try.prog 43 [.slice (some ⟨i, k, none⟩) n c] H fun r h => r = .slice (some ⟨i, k, none⟩) n n ∧ h = H := by
  refine fn_start T Try.func43 rfl (by kernel_rfl) Try.results43 Try.ntmps43 (by simp) ?_
  intro Q hQ
  simp only [argTm]
  have hco : ¬ c = OPEN := by unfold OPEN; omega
  have hno : ¬ n = OPEN := by unfold OPEN; omega
  refine cw_step T xs [0] fun K1 hK1 => ?_
  simp
  refine hK1 _ ?_; clear hK1 K1
  refine cw_step T xs [2] fun K2 hK2 => ?_
  simp [hco, hno]
  repeat refine ⟨by omega, ?_⟩
  refine hK2 _ ?_; clear hK2 K2
  exact cw_ret (hQ _ (.slice (some ⟨i, k, none⟩) n n) _ _ (resC_one (by simp)) (Ret.refl _ _ _) ⟨rfl, rfl⟩).2
include hm
theorem mac_sum_fn (k : List UInt8) (hk : k.length = 64) (y : UInt8) (b : List UInt8) (n : Nat) (hn : b.length = n) (hb : n ≤ 1073741824) (H : Heap) (a : Option Addr) (c : Nat) (hr : rowOf 1 H (.slice a n c) = some (u8s b)) :
    Sx.Fn Try.prog 41 [.agg (u8s k).toArray, .int .u8 y.toNat, .slice a n c] H fun r h => r = .agg (u8s (sumL (xorL k y ++ b))).toArray ∧ h = H := by
  refine fn_start T Try.func41 rfl (by kernel_rfl) Try.results41 Try.ntmps41 (by simp) ?_
  intro Q hQ
  simp only [argTm]
  refine cw_step T xs [1, 2, 3, 6] fun K1 hK1 => ?_
  simp
  refine hK1 _ ?_; clear hK1 K1
  refine cw_seq fun K2 hK2 => ?_
  refine cw_step T xs [1, 2, 3, 6, 8] fun K3 hK3 => ?_
  simp
  refine hK3 _ ?_; clear hK3 K3
  refine cw_block ?_
  refine cw_while (fun w s => ∃ i, w = 64 - i ∧ i ≤ 64 ∧ s = ⟨[(1, .v (.int .u8 y.toNat)), (2, .v (.slice a n c)), (3, .v (.pointer (some ⟨H.length, 0, none⟩))), (6, .v (.pointer (some ⟨H.length + 1, 0, none⟩))), (8, .v (.int .i64 i))], H ++ [some (.cells (u8s (xfront k y i)) true 0), some (.cells (u8s (List.replicate 32 0)) true 0)]⟩) 64 ⟨0, by omega, by omega, by rw [xfront_zero]; rfl⟩ ?_
  rintro w s ⟨i, rfl, hi, rfl⟩
  refine cw_step T xs [1, 2, 3, 6, 8, 9] fun K4 hK4 => ?_
  simp
  refine hK4 _ ?_; clear hK4 K4
  refine cw_seq fun K5 hK5 => ?_
  refine cw_cond rfl (fun hc => ?_) (fun hc => ?_)
  · try simp at hc
    have hfl := xfront_length k y i
    have hfg := xfront_get k y i (by omega)
    refine cw_skip ?_
    refine hK5 _ ?_; clear hK5
    refine cw_seq fun K6 hK6 => ?_
    refine cw_block ?_
    refine cw_step T xs [1, 2, 3, 6, 7, 8] fun K7 hK7 => ?_
    simp
    refine hK7 _ ?_; clear hK7 K7
    refine cw_last T xs [1, 2, 3, 6, 8] fun K8 hK8 => ?_
    simp [hfl, hfg, hk]
    repeat refine ⟨by omega, ?_⟩
    rw [u8s_setb, xfront_set k y i (by omega)]
    refine hK8 _ ?_; clear hK8 K8
    refine hK6 _ ?_; clear hK6
    refine cw_last T xs [1, 2, 3, 6, 8] fun K9 hK9 => ?_
    simp
    refine ⟨by omega, ?_⟩
    refine hK9 _ ?_; clear hK9 K9
    refine round_end (64 - (i + 1)) (by omega) ⟨i + 1, rfl, by omega, ?_⟩ (by simp)
    rfl
  · try simp at hc
    have hi64 : i = 64 := by omega
    subst hi64
    rw [xfront_full k y 64 (by omega)]
    have hxl : (xorL k y).length = 64 := by simp [xorL, hk]
    have hxt : (xorL k y).take 64 = xorL k y := List.take_of_length_le (by omega)
    have hrow : ∀ L, rowOf 1 (H ++ L) (.slice a n c) = some (u8s b) := fun L => Agree.rowOf (fun _ _ q => hget_old q L) hr
    refine cw_exit ?_
    refine hK2 _ ?_; clear hK2
    refine cw_step T xs [6] fun K10 hK10 => ?_
    simp [hxl]
    refine CallK.of (Clip_fn T _ 0 64 64 (by omega) (by omega) _) ?_
    rintro _ _ ⟨rfl, rfl⟩
    have hsl : (sumL (xorL k y ++ b)).length = 32 := sumL_length _
    have hst : (sumL (xorL k y ++ b)).take 32 = sumL (xorL k y ++ b) := List.take_of_length_le (by omega)
    rcases Nat.eq_zero_or_pos n with h0 | h0
    · subst h0
      cases List.eq_nil_of_length_eq_zero hn
      simp [hrow, hxl, hxt]
      refine CallK.of (sha_Sum_l T hm (xorL k y) 64 hxl (by omega) _ _ 64 (by simp [hxl, hxt])) ?_
      rintro _ _ ⟨rfl, rfl⟩
      have hsl' : (sumL (xorL k y)).length = 32 := sumL_length _
      have hst' : (sumL (xorL k y)).take 32 = sumL (xorL k y) := List.take_of_length_le (by omega)
      simp [hsl']
      refine hK10 _ ?_; clear hK10 K10
      exact cw_ret (hQ _ (.agg (u8s (sumL (xorL k y ++ []))).toArray) _ _ (resC_one (by simp [hsl', hst'])) (Ret.plain (plain_u8s _)) ⟨rfl, rfl⟩).2
    · have h1 : ¬ 64 + n ≤ 64 := by omega
      have h2 : 64 + n ≤ 35184372088832 := by omega
      have h3 : ¬ n = 0 := by omega
      have hbl : (xorL k y ++ b).length = 64 + n := by simp [hxl, hn]
      have hbt : b.take n = b := List.take_of_length_le (by omega)
      have hxt2 : (xorL k y).take (64 + n) = xorL k y := List.take_of_length_le (by omega)
      simp [hrow, hxl, hxt, hn, h1, h2, h3]
      refine CallK.of (sha_Sum_l T hm (xorL k y ++ b) (64 + n) hbl (by omega) _ _ OPEN (by simp [hxl, hn, List.take_append, hbt, hxt2])) ?_
      rintro _ _ ⟨rfl, rfl⟩
      simp [hsl]
      refine hK10 _ ?_; clear hK10 K10
      exact cw_ret (hQ _ (.agg (u8s (sumL (xorL k y ++ b))).toArray) _ _ (resC_one (by simp [hsl, hst])) (Ret.plain (plain_u8s _)) ⟨rfl, rfl⟩).2
/-- A key, filled up. -/
def key64 (k : List UInt8) : List UInt8 := (if 64 < k.length then sumL k else k) ++ List.replicate (64 - (if 64 < k.length then sumL k else k).length) 0
omit T hm in
theorem key64_length (k : List UInt8) : (key64 k).length = 64 := by
  unfold key64
  split
  · simp [sumL_length]
  · simp; omega
def macL (k b : List UInt8) : List UInt8 := sumL (xorL (key64 k) 92 ++ sumL (xorL (key64 k) 54 ++ b))
omit T hm in
theorem macL_length (k b : List UInt8) : (macL k b).length = 32 := sumL_length _
def zero64 : List UInt8 := List.replicate 64 0
def zero32' : List UInt8 := List.replicate 32 0
omit T hm in
theorem setL_zero (k : List UInt8) (h : k.length ≤ 64) : setL (u8s zero64) 0 (u8s k) = u8s (k ++ List.replicate (64 - k.length) 0) := by
  have hz : (u8s zero64).length = 64 := rfl
  have e : (u8s zero64).drop k.length = u8s (List.replicate (64 - k.length) 0) := by
    unfold zero64
    simp only [u8s, ← List.map_drop, List.drop_replicate]
  rw [setL_eq _ _ _ (by rw [hz, u8s_length]; omega), Nat.zero_add, u8s_length, e, List.take_zero, List.nil_append]
  simp only [u8s, List.map_append]
theorem mac_Of_fn (k : List UInt8) (n : Nat) (hn : k.length = n) (hnb : n ≤ 1073741824) (b : List UInt8) (m : Nat) (hm' : b.length = m) (hmb : m ≤ 1073741824) (H : Heap) (a : Option Addr) (c : Nat) (hr : rowOf 1 H (.slice a n c) = some (u8s k)) (a2 : Option Addr) (d : Nat) (hs : rowOf 1 H (.slice a2 m d) = some (u8s b)) :
    Sx.Fn Try.prog 31 [.slice a n c, .slice a2 m d] H fun r h => r = .agg (u8s (macL k b)).toArray ∧ h = H := by
  refine fn_start T Try.func31 rfl (by kernel_rfl) Try.results31 Try.ntmps31 (by simp) ?_
  intro Q hQ
  simp only [argTm]
  refine cw_step T xs [0, 1, 4] fun K1 hK1 => ?_
  simp
  refine hK1 _ ?_; clear hK1 K1
  refine cw_step T xs [0, 1, 4, 5] fun K2 hK2 => ?_
  simp
  refine hK2 _ ?_; clear hK2 K2
  refine cw_seq fun K3 hK3 => ?_
  have g : ∀ (X : List (Nat × Ent)) (L : Heap) (a' : Option Addr) (n' c' : Nat) (k' : List UInt8), rowOf 1 (H ++ (some (.cells (u8s zero32') true 0) :: some (.cells (u8s zero64) true 0) :: L)) (.slice a' n' c') = some (u8s k') → k'.length = n' → n' ≤ 64 → k' ++ List.replicate (64 - n') 0 = key64 k →
      K3 ⟨(0, .v (.slice a' n' c')) :: (1, .v (.slice a2 m d)) :: (4, .v (.pointer (some ⟨H.length, 0, none⟩))) :: (5, .v (.pointer (some ⟨H.length + 1, 0, none⟩))) :: X, H ++ (some (.cells (u8s zero32') true 0) :: some (.cells (u8s zero64) true 0) :: L)⟩ := by
    intro X L a' n' c' k' hrow hkl hn64 hkey
    refine hK3 _ ?_; clear hK3
    have hk't : k'.take n' = k' := List.take_of_length_le (by omega)
    have hmin : min n' 64 = n' := by omega
    have hset := setL_zero k' (by omega)
    rw [hkl, hkey] at hset
    have hkl2 := key64_length k
    have hk1 : ∀ x ∈ u8s k', one1 x = true := List.all_eq_true.1 (u8s_one1 k')
    have hz64 : zero64.length = 64 := rfl
    have hz32 : zero32'.length = 32 := rfl
    refine cw_step T xs [1, 4, 5] fun K7 hK7 => ?_
    simp [hrow, hk't, hmin, hkl, hset, hz64, hz32, hn64]
    refine hK7 _ ?_; clear hK7 K7
    have hkt2 : (key64 k).take 64 = key64 k := List.take_of_length_le (by omega)
    have hrows : ∀ L, rowOf 1 (H ++ L) (.slice a2 m d) = some (u8s b) := fun L => Agree.rowOf (fun _ _ q => hget_old q L) hs
    obtain ⟨V, hV⟩ : ∃ V, V = sumL (xorL (key64 k) 54 ++ b) := ⟨_, rfl⟩
    have hVl : V.length = 32 := by rw [hV]; exact sumL_length _
    have hVt : V.take 32 = V := List.take_of_length_le (by omega)
    have hMl := macL_length k b
    have hMt : (macL k b).take 32 = macL k b := List.take_of_length_le (by omega)
    have hMV : sumL (xorL (key64 k) 92 ++ V) = macL k b := by rw [hV]; rfl
    refine cw_step T xs [4, 5, 7] fun K8 hK8 => ?_
    simp [hkl2, hkt2]
    refine CallK.of (mac_sum_fn T hm (key64 k) hkl2 54 b m hm' hmb _ a2 d (hrows _)) ?_
    rintro _ _ ⟨rfl, rfl⟩
    rw [← hV]
    simp [hVl]
    refine hK8 _ ?_; clear hK8 K8
    refine cw_draw T hm xs [4] (.soft 0 true <| .soft 1 true <| .alt 2 false (.alt 3 false (.stop) (.stop)) (.stop)) (by kernel_rfl) fun K9 hK9 => ?_
    simp [hkl2, hkt2, hVl, hVt]
    refine CallK.of (mac_sum_fn T hm (key64 k) hkl2 92 V 32 hVl (by omega) _ _ 32 (by simp [hVl, hVt])) ?_
    rintro _ _ ⟨rfl, rfl⟩
    rw [hMV]
    simp [hMl, hz32]
    refine hK9 _ ?_; clear hK9 K9
    exact cw_ret (hQ _ (.agg (u8s (macL k b)).toArray) _ _ (resC_one (by simp [hMl, hMt])) (Ret.plain (plain_u8s _)) ⟨rfl, rfl⟩).2
  clear hK3
  refine cw_step T xs [0, 1, 4, 5, 10] fun K4 hK4 => ?_
  simp
  refine hK4 _ ?_; clear hK4 K4
  refine cw_cond rfl (fun hc => ?_) (fun hc => ?_)   -- JOIN
  · try simp at hc
    refine cw_step T xs [1, 4, 5, 6] fun K5 hK5 => ?_
    simp
    refine CallK.of (sha_Sum_l T hm k n hn (by omega) _ a c (Agree.rowOf (fun _ _ q => hget_old q _) hr)) ?_
    rintro _ _ ⟨rfl, rfl⟩
    have hsl : (sumL k).length = 32 := sumL_length _
    have hst : (sumL k).take 32 = sumL k := List.take_of_length_le (by omega)
    simp [hsl]
    refine hK5 _ ?_; clear hK5 K5
    refine cw_last T xs [0, 1, 4, 5] fun K6 hK6 => ?_
    simp [hsl, hst]
    refine hK6 _ ?_; clear hK6 K6
    have hg := g [] [some (.cells (u8s (sumL k)) true 0)] (some ⟨H.length + 2, 0, none⟩) 32 32 (sumL k) (by simp [hsl, hst]) hsl (by omega) (by unfold key64; rw [if_pos (by omega), hsl])
    exact hg
  · try simp at hc
    refine cw_skip ?_
    have hg := g [(10, .v (.bool (decide ((64 : Int) < (n : Int)))))] [] a n c k (Agree.rowOf (fun _ _ q => hget_old q _) hr) hn (by omega) (by unfold key64; rw [if_neg (by omega), hn])
    exact hg
end Go.Proofs
