/-
  Walks by Sx; no condition beyond those that stand in each statement.
-/
import Derived.Test.YtfjdbhgnnpmceaaSxb8
import Derived.Test.YtfjdbhgnnpmceaaSxTyR3
namespace Go.Proofs
open Go Go.Sx
set_option maxRecDepth 100000
def xs : Sx.Mode
  | .i64 => true
  | .u64 => true
  | _ => false
attribute [local simp] xs
variable (T : TyOk Try.prog (tyOf Try.prog Try.eqs)) (hm : Try.prog.follows .mixedOrders = true)
include T
theorem bits_RotateLeft32_fn (x : UInt32) (k : Nat) (hk : 0 < k ∧ k < 32) (H : Heap) :
    Sx.Fn Try.prog 75 [.int .u32 x.toNat, .int .i64 (-(k : Int))] H fun r h => r = .int .u32 (rotr x k).toNat ∧ h = H := by
  refine fn_start T Try.func75 rfl (by kernel_rfl) Try.results75 Try.ntmps75 (by simp) ?_
  intro Q hQ
  simp only [argTm]
  refine cw_step T (fun _ => false) [0, 1] fun K1 hK1 => ?_
  simp
  refine hK1 _ ?_; clear hK1 K1
  refine cw_step T (fun _ => false) [0, 5] fun K2 hK2 => ?_
  simp
  have e : Go.bits .and .u64 (IntKind.u64.wrap (-(k : Int))) 31 = ((32 - k : Nat) : Int) := by
    have e0 : IntKind.u64.wrap (-(k : Int)) = ((18446744073709551616 - k : Nat) : Int) := by
      simp [IntKind.wrap, IntKind.bits, IntKind.signed]; omega
    rw [e0, show (31 : Int) = ((31 : Nat) : Int) from rfl, u64_and_nat _ _ (by omega) (by omega)]
    have : (18446744073709551616 - k) &&& 31 = (18446744073709551616 - k) % 2 ^ 5 := Nat.and_two_pow_sub_one_eq_mod _ 5
    rw [this]; omega
  refine hK2 _ ?_; clear hK2 K2
  simp only [e]
  refine cw_step T xs [4] fun K3 hK3 => ?_
  simp
  rw [show 32 - (32 - k) = k by omega, rot_a]
  refine ⟨by omega, by omega, ?_⟩
  refine hK3 _ ?_; clear hK3 K3
  exact cw_ret (hQ _ _ _ _ rfl (Ret.refl _ _ _) ⟨rfl, rfl⟩).2
theorem sha_right_fn (x : UInt32) (k : Nat) (hk : 0 < k ∧ k < 32) (H : Heap) :
    Sx.Fn Try.prog 73 [.int .u32 x.toNat, .int .i64 k] H fun r h => r = .int .u32 (rotr x k).toNat ∧ h = H := by
  refine fn_start T Try.func73 rfl (by kernel_rfl) Try.results73 Try.ntmps73 (by simp) ?_
  intro Q hQ
  simp only [argTm]
  refine cw_step T xs [0, 1] fun K1 hK1 => ?_
  simp
  refine hK1 _ ?_; clear hK1 K1
  refine cw_step T xs [4] fun K2 hK2 => ?_
  simp
  refine ⟨by omega, ?_⟩
  refine CallK.of (bits_RotateLeft32_fn T x k hk _) ?_
  rintro _ _ ⟨rfl, rfl⟩
  simp
  refine hK2 _ ?_; clear hK2 K2
  exact cw_ret (hQ _ _ _ _ rfl (Ret.refl _ _ _) ⟨rfl, rfl⟩).2
theorem sha_right_l (x : UInt32) (k : Nat) (n : Int) (hn : n = k) (hk : 0 < k ∧ k < 32) (H : Heap) :
    Sx.Fn Try.prog 73 [.int .u32 x.toNat, .int .i64 n] H fun r h => r = .int .u32 (rotr x k).toNat ∧ h = H := by
  subst hn; exact sha_right_fn T x k hk H
include hm
omit T hm
def sg0 (x : UInt32) : UInt32 := rotr x 7 ^^^ rotr x 18 ^^^ u32n (x.toNat / 8)
def sg1 (x : UInt32) : UInt32 := rotr x 17 ^^^ rotr x 19 ^^^ u32n (x.toNat / 1024)
def bw (b : List UInt8) (i c : Nat) : UInt32 := u32n ((u32n (ix b i).toNat).toNat * c)
def word (b : List UInt8) (i : Nat) : UInt32 := bw b (4 * i) 16777216 ||| bw b (4 * i + 1) 65536 ||| bw b (4 * i + 2) 256 ||| u32n (ix b (4 * i + 3)).toNat
def nextW (b : List UInt8) (l : List UInt32) (i : Nat) : UInt32 := if i < 16 then word b i else ix l (i - 16) + sg0 (ix l (i - 15)) + ix l (i - 7) + sg1 (ix l (i - 2))
def wl (b : List UInt8) : Nat → List UInt32
  | 0 => []
  | i + 1 => wl b i ++ [nextW b (wl b i) i]
theorem wl_length (b : List UInt8) : ∀ i, (wl b i).length = i
  | 0 => rfl
  | i + 1 => by simp [wl, wl_length b i]
theorem wl_set (b : List UInt8) (i : Nat) (hi : i < 64) (x : UInt32) (hx : x = nextW b (wl b i) i) : (wl b i ++ List.replicate (64 - i) 0).set i x = wl b (i + 1) ++ List.replicate (64 - (i + 1)) 0 := by
  have hl := wl_length b i
  rw [List.set_append_right _ _ (by omega), hl, Nat.sub_self, show 64 - i = (64 - (i + 1)) + 1 by omega, List.replicate_succ, List.set_cons_zero, wl, hx]
  simp
theorem wl_set' (b : List UInt8) (i : Nat) (hi : i < 64) (x : UInt32) (hx : x = nextW b (wl b i) i) : wl b i ++ (List.replicate (64 - i) 0).set 0 x = wl b (i + 1) ++ List.replicate (64 - (i + 1)) 0 := by
  rw [← wl_set b i hi x hx]
  rw [List.set_append_right _ _ (by rw [wl_length]; exact Nat.le_refl _), wl_length, Nat.sub_self]
/-- Two rows added up, from the front on. -/
def zfront (h v : List UInt32) (i : Nat) : List UInt32 := (List.zipWith ad h v).take i ++ h.drop i
theorem zfront_length (h v : List UInt32) (hv : v.length = h.length) (i : Nat) : (zfront h v i).length = h.length := by
  simp [zfront, hv]; omega
theorem zfront_ix (h v : List UInt32) (hv : v.length = h.length) (i : Nat) (hi : i < h.length) : ix (zfront h v i) i = ix h i := by
  have e : (zfront h v i)[i]? = h[i]? := by
    rw [zfront, List.getElem?_append_right (by simp; omega)]
    simp [hv, Nat.min_eq_left (Nat.le_of_lt hi)]
  rw [ix_eq hi]
  exact ix_some (by rw [e]; simp [hi])
theorem zfront_set (h v : List UInt32) (hv : v.length = h.length) (i : Nat) (hi : i < h.length) : (zfront h v i).set i (ad (ix h i) (ix v i)) = zfront h v (i + 1) := by
  have hz : (List.zipWith ad h v).length = h.length := by simp [hv]
  unfold zfront
  rw [List.set_append_right _ _ (by simp; omega), List.length_take, hz, Nat.min_eq_left (Nat.le_of_lt hi), Nat.sub_self, List.take_add_one, List.append_assoc]
  congr 1
  rw [List.drop_eq_getElem_cons hi, List.set_cons_zero, List.getElem?_eq_getElem (by omega)]
  simp [ix_eq hi, ix_eq (show i < v.length by omega)]
def kk : List UInt32 := [0x428a2f98, 0x71374491, 0xb5c0fbcf, 0xe9b5dba5, 0x3956c25b, 0x59f111f1, 0x923f82a4, 0xab1c5ed5,
  0xd807aa98, 0x12835b01, 0x243185be, 0x550c7dc3, 0x72be5d74, 0x80deb1fe, 0x9bdc06a7, 0xc19bf174,
  0xe49b69c1, 0xefbe4786, 0x0fc19dc6, 0x240ca1cc, 0x2de92c6f, 0x4a7484aa, 0x5cb0a9dc, 0x76f988da,
  0x983e5152, 0xa831c66d, 0xb00327c8, 0xbf597fc7, 0xc6e00bf3, 0xd5a79147, 0x06ca6351, 0x14292967,
  0x27b70a85, 0x2e1b2138, 0x4d2c6dfc, 0x53380d13, 0x650a7354, 0x766a0abb, 0x81c2c92e, 0x92722c85,
  0xa2bfe8a1, 0xa81a664b, 0xc24b8b70, 0xc76c51a3, 0xd192e819, 0xd6990624, 0xf40e3585, 0x106aa070,
  0x19a4c116, 0x1e376c08, 0x2748774c, 0x34b0bcb5, 0x391c0cb3, 0x4ed8aa4a, 0x5b9cca4f, 0x682e6ff3,
  0x748f82ee, 0x78a5636f, 0x84c87814, 0x8cc70208, 0x90befffa, 0xa4506ceb, 0xbef9a3f7, 0xc67178f2]
@[simp] theorem kk_length : kk.length = 64 := Eq.trans rfl rfl
def hh : List UInt32 := [0x6a09e667, 0xbb67ae85, 0x3c6ef372, 0xa54ff53a, 0x510e527f, 0x9b05688c, 0x1f83d9ab, 0x5be0cd19]
@[simp] theorem hh_length : hh.length = 8 := Eq.trans rfl rfl
structure V8 where
  a : UInt32
  b : UInt32
  c : UInt32
  d : UInt32
  e : UInt32
  f : UInt32
  g : UInt32
  h : UInt32
def rnd (v : V8) (k w : UInt32) : V8 :=
  let s := v.h + (rotr v.e 6 ^^^ rotr v.e 11 ^^^ rotr v.e 25) + (v.g ^^^ (v.e &&& (v.f ^^^ v.g))) + k + w
  let t := (rotr v.a 2 ^^^ rotr v.a 13 ^^^ rotr v.a 22) + ((v.a &&& v.b) ^^^ (v.a &&& v.c) ^^^ (v.b &&& v.c))
  ⟨s + t, v.a, v.b, v.c, v.d + s, v.e, v.f, v.g⟩
def rnds (w : List UInt32) (v : V8) : Nat → V8
  | 0 => v
  | i + 1 => rnd (rnds w v i) (ix kk i) (ix w i)
def V8.list (v : V8) : List UInt32 := [v.a, v.b, v.c, v.d, v.e, v.f, v.g, v.h]
@[simp] theorem V8.list_length (v : V8) : v.list.length = 8 := Eq.trans rfl rfl
def ofL (l : List UInt32) : V8 := ⟨ix l 0, ix l 1, ix l 2, ix l 3, ix l 4, ix l 5, ix l 6, ix l 7⟩
theorem ofL_list (l : List UInt32) (hl : l.length = 8) : (ofL l).list = l := by
  match l, hl with
  | [_, _, _, _, _, _, _, _], _ => rfl
def blk (h : List UInt32) (b : List UInt8) : List UInt32 := List.zipWith ad h (rnds (wl b 64) (ofL h) 64).list
include T hm
theorem sha_rounds_fn (H : Heap) : Sx.Fn Try.prog 74 [] H fun r h => r = .agg (w32 kk).toArray ∧ h = H :=
  fn_runV T (n := 100) (d := 3) hm noMore_ok rfl (by kernel_rfl) (by kernel_rfl) H
theorem sha_Start_fn (H : Heap) : Sx.Fn Try.prog 63 [] H fun r h => r = .agg (w32 hh).toArray ∧ h = H :=
  fn_runV T (n := 100) (d := 3) hm noMore_ok rfl (by kernel_rfl) (by kernel_rfl) H
end Go.Proofs
