/-
  Walks by Sx; no condition beyond those that stand in each statement.
-/
import Derived.Test.YtfefdjomenfchaaSxsPut
namespace Go.Proofs
open Go Go.Sx
set_option maxRecDepth 100000
/-- A record, and its cells. -/
structure Rc where
  k : Int
  s : Int
  q : Int
  e : Int
  c : Int
  h : Int
def Rc.cells (r : Rc) : List Value := [.int .i64 r.k, .int .i64 r.s, .int .i64 r.q, .int .i64 r.e, .int .i64 r.c, .int .i64 r.h]
def b8 (n : Int) : UInt8 := UInt8.ofNat (n % 256).toNat
def m32 (n : Int) : Nat := (n % 4294967296).toNat
def m16 (n : Int) : Nat := (n % 65536).toNat
theorem wrap_b8 (n : Int) : IntKind.u8.wrap n = ((b8 n).toNat : Int) := by
  simp [IntKind.wrap, IntKind.bits, IntKind.signed, b8]; omega
theorem wrap_m32 (n : Int) : IntKind.u32.wrap n = (m32 n : Int) := by
  simp [IntKind.wrap, IntKind.bits, IntKind.signed, m32]; omega
theorem wrap_m16 (n : Int) : IntKind.u16.wrap n = (m16 n : Int) := by
  simp [IntKind.wrap, IntKind.bits, IntKind.signed, m16]; omega
theorem m32_lt (n : Int) : m32 n < 4294967296 := by unfold m32; omega
theorem m16_lt (n : Int) : m16 n < 65536 := by unfold m16; omega
def putL (v n : Nat) : List UInt8 := (List.range n).map (putB v n)
@[simp] theorem putL_length (v n : Nat) : (putL v n).length = n := by simp [putL]
def recB (r : Rc) : List UInt8 := [b8 r.k, b8 r.s] ++ putL (m32 r.q) 4 ++ putL (m16 r.e) 2 ++ [b8 r.c, b8 r.h]
@[simp] theorem recB_length (r : Rc) : (recB r).length = 10 := by simp [recB]
attribute [local simp] xs wrap_b8 wrap_m32 wrap_m16
variable (T : TyOk Try.prog (tyOf Try.prog Try.eqs)) (hm : Try.prog.follows .mixedOrders = true)
include T
theorem put_fnL (v : Nat) (n : Nat) (i : Int) (hi : i = n) (hn : n ≤ 8) (hv : v < 18446744073709551616) (hb : n < 8 → v / 2 ^ (8 * n) = 0) (H : Heap) :
    Sx.Fn Try.prog 40 [.int .u64 v, .int .i64 i] H fun r h => r = .tuple #[.slice (some ⟨H.length, 0, none⟩) n n, .int .i64 0] ∧ h = H ++ [some (.cells (u8s (putL v n)) true 0)] := by
  subst hi; exact put_fn T v hv n hn hb H
theorem chain_Bytes_fn0 (r : Rc) : Sx.Fn Try.prog 26 [.agg r.cells.toArray] [] fun v _ => v = .agg (u8s (recB r)).toArray := by
  refine fn_start T Try.func26 rfl (by kernel_rfl) Try.results26 Try.ntmps26 (by simp) ?_
  intro Q hQ
  simp only [argTm, Rc.cells]
  have h4 := m32_lt r.q
  have h2 := m16_lt r.e
  refine cw_step T xs [1, 2] fun K1 hK1 => ?_
  simp
  refine hK1 _ ?_; clear hK1 K1
  refine cw_step T xs [1, 2, 3] fun K2 hK2 => ?_
  simp
  refine ⟨by omega, ?_⟩
  refine CallK.of (put_fnL T (m32 r.q) 4 4 rfl (by omega) (by omega) (fun _ => by omega) _) ?_
  rintro _ _ ⟨rfl, rfl⟩
  simp
  refine hK2 _ ?_; clear hK2 K2
  refine cw_step T xs [1, 2, 3, 5] fun K3 hK3 => ?_
  simp
  refine ⟨by omega, ?_⟩
  refine CallK.of (put_fnL T (m16 r.e) 2 2 rfl (by omega) (by omega) (fun _ => by omega) _) ?_
  rintro _ _ ⟨rfl, rfl⟩
  simp
  refine hK3 _ ?_; clear hK3 K3
  obtain ⟨p, hp⟩ : ∃ p, p = putL (m32 r.q) 4 := ⟨_, rfl⟩
  obtain ⟨q, hq⟩ : ∃ q, q = putL (m16 r.e) 2 := ⟨_, rfl⟩
  have hr : recB r = [b8 r.k, b8 r.s] ++ p ++ q ++ [b8 r.c, b8 r.h] := by rw [hp, hq]; rfl
  have hpl : p.length = 4 := by rw [hp, putL_length]
  have hql : q.length = 2 := by rw [hq, putL_length]
  rw [← hp, ← hq]
  clear hp hq
  match p, q, hpl, hql with
  | [p0, p1, p2, p3], [q0, q1], _, _ =>
  refine cw_step T xs [2, 3, 5, 7] fun K4 hK4 => ?_
  simp
  refine hK4 _ ?_; clear hK4 K4
  refine cw_step T xs [2, 5, 7] fun K5 hK5 => ?_
  simp [OPEN, u8s]
  refine hK5 _ ?_; clear hK5 K5
  refine cw_step T xs [2, 7] fun K6 hK6 => ?_
  simp [OPEN, u8s]
  refine hK6 _ ?_; clear hK6 K6
  refine cw_step T xs [2] fun K7 hK7 => ?_
  simp
  refine hK7 _ ?_; clear hK7 K7
  exact cw_ret (hQ _ (.agg (u8s (recB r)).toArray) _ _ (resC_one (by simp [hr, u8s])) (Ret.refl _ _ _) rfl).2
omit T in
theorem Rc.plain (r : Rc) : closedV (.agg r.cells.toArray) = true := rfl
theorem chain_Bytes_fn (r : Rc) (H : Heap) : Sx.Fn Try.prog 26 [.agg r.cells.toArray] H fun v h => v = .agg (u8s (recB r)).toArray ∧ h = H :=
  fn_plain (by simp only [List.all_cons, List.all_nil, Rc.plain, Bool.and_true]) (plain_u8s _) (chain_Bytes_fn0 T r) (fun _ _ h => h) H
/-- A head with a record more. -/
def nextL (h : List UInt8) (r : Rc) : List UInt8 := sumL (h ++ recB r)
include hm
theorem chain_Next_fn0 (h : List UInt8) (hl : h.length = 32) (r : Rc) : Sx.Fn Try.prog 27 [.agg (u8s h).toArray, .agg r.cells.toArray] [] fun v _ => v = .agg (u8s (nextL h r)).toArray := by
  refine fn_start T Try.func27 rfl (by kernel_rfl) Try.results27 Try.ntmps27 (by simp) ?_
  intro Q hQ
  simp only [argTm]
  have hrc : r.cells.length = 6 := rfl
  refine cw_step T xs [2, 3, 4] fun K1 hK1 => ?_
  simp
  refine hK1 _ ?_; clear hK1 K1
  refine cw_step T xs [2, 4, 5] fun K2 hK2 => ?_
  simp [hrc]
  refine CallK.of (chain_Bytes_fn T r _) ?_
  rintro _ _ ⟨rfl, rfl⟩
  simp [setL_all]
  refine hK2 _ ?_; clear hK2 K2
  have hbl : (h ++ recB r).length = 42 := by simp [hl]
  have hrt : (recB r).take 10 = recB r := List.take_of_length_le (by simp)
  have hht : h.take 32 = h := List.take_of_length_le (by omega)
  refine cw_draw T hm xs [4] (.soft 0 true <| .soft 1 true <| .alt 2 false (.alt 3 true (.alt 4 false (.stop) (.stop)) (.stop)) (.stop)) (by kernel_rfl) fun K3 hK3 => ?_
  simp [hl, hrt, hht]
  refine CallK.of (sha_Sum_l T hm (h ++ recB r) 42 hbl (by omega) _ (some ⟨4, 0, none⟩) OPEN (by simp [hl, hrt, List.take_append, show h.take 42 = h from List.take_of_length_le (by omega)])) ?_
  rintro _ _ ⟨rfl, rfl⟩
  have hsl := sumL_length (h ++ recB r)
  have hst : (sumL (h ++ recB r)).take 32 = sumL (h ++ recB r) := List.take_of_length_le (by omega)
  simp [hsl, setL_all]
  refine hK3 _ ?_; clear hK3 K3
  exact cw_ret (hQ _ (.agg (u8s (nextL h r)).toArray) _ _ (resC_one (by simp [hsl, hst, nextL])) (Ret.refl _ _ _) rfl).2
theorem chain_Next_fn (h : List UInt8) (hl : h.length = 32) (r : Rc) (H : Heap) : Sx.Fn Try.prog 27 [.agg (u8s h).toArray, .agg r.cells.toArray] H fun v g => v = .agg (u8s (nextL h r)).toArray ∧ g = H :=
  fn_plain (by simp only [List.all_cons, List.all_nil, Rc.plain, plain_u8s, Bool.and_true]) (plain_u8s _) (chain_Next_fn0 T hm h hl r) (fun _ _ h => h) H
/-- The head of records. -/
def headL (h : List UInt8) (l : List Rc) : List UInt8 := l.foldl nextL h
def zero32 : List UInt8 := List.replicate 32 0
omit hm T in
theorem headL_length : ∀ (l : List Rc) (h : List UInt8), h.length = 32 → (headL h l).length = 32
  | [], h, hl => hl
  | r :: l, h, _ => headL_length l (nextL h r) (sumL_length _)
end Go.Proofs
