/-
  Walks by Sx; no condition beyond those that stand in each statement.
-/
import Derived.Test.YtfjdbhgnnpmceaaSxuPut
import Derived.Test.YtfjdbhgnnpmceaaSxb10
namespace Go.Proofs
open Go Go.Sx
set_option maxRecDepth 100000
theorem or8 (a b : Nat) (ha : a * 256 < 18446744073709551616) (hb : b < 256) : Go.bits .or .u64 ((a : Int) * 256) (b : Int) = ((a * 256 + b : Nat) : Int) := by
  have e : ((a : Int) * 256) = ((a * 256 : Nat) : Int) := by simp
  rw [e, bits_or_u64_nat _ _ ha (by omega)]
  have := Nat.shiftLeft_add_eq_or_of_lt (a := a) (b := b) (i := 8) (by simpa using hb)
  rw [Nat.shiftLeft_eq] at this
  rw [← this]
def takeN (l : List UInt8) : Nat := l.foldl (fun a b => a * 256 + b.toNat) 0
theorem takeN_snoc (l : List UInt8) (b : UInt8) : takeN (l ++ [b]) = takeN l * 256 + b.toNat := by simp [takeN]
theorem takeN_lt' : ∀ (l : List UInt8) (a : Nat), l.foldl (fun a b => a * 256 + b.toNat) a < (a + 1) * 256 ^ l.length
  | [], a => by simp
  | b :: l, a => by
    have h := takeN_lt' l (a * 256 + b.toNat)
    have hb := b.toNat_lt
    rw [List.foldl_cons, List.length_cons, Nat.pow_succ]
    refine Nat.lt_of_lt_of_le h ?_
    rw [Nat.mul_comm (256 ^ l.length), ← Nat.mul_assoc]
    exact Nat.mul_le_mul_right _ (by omega)
theorem takeN_lt (l : List UInt8) : takeN l < 256 ^ l.length := by simpa [takeN] using takeN_lt' l 0
attribute [local simp] xm
variable (T : TyOk Try.prog (tyOf Try.prog Try.eqs)) (hm : Try.prog.follows .mixedOrders = true)
include T
/-- A number's bytes, the highest first. -/
def be (n v : Nat) : List UInt8 := (List.range n).map (putB v n)
omit T in
@[simp] theorem be_length (n v : Nat) : (be n v).length = n := by simp [be]
theorem take_bs (b : List UInt8) (hn : b.length ≤ 8) (H : Heap) (v : Value) (hb : BS H v b) :
    Sx.Fn Try.prog 70 [v] H fun r h => r = .tuple #[.int .u64 (takeN b), .int .i64 0] ∧ h = H := by
  refine fn_w T xm Try.func70 rfl (by kernel_rfl) Try.results70 Try.ntmps70 (by simp) fun R hR => ?_
  rcases hb.view with ⟨rfl, rfl⟩ | ⟨i0, k, c, cs, rfl, hg, hj⟩
  · simp
    refine W_for T xm (fun i => ⟨[(4, .v (.int .u64 0)), (10, .v (.slice none 0 0)), (11, .v (.int .i64 0)), (12, .v (.int .i64 0))], H⟩) 0 ⟨by simp, rfl⟩ ?_
    intro i hi K Q hK hQ
    simp
    refine hQ _ _ ?_
    simp
    exact Ans.refl (hR _ _ ⟨rfl, rfl⟩)
  have hg0 := hg []
  rw [List.append_nil] at hg0
  have hc : ¬ (8 : Int) < (b.length : Int) := by omega
  simp [hc]
  refine W_for T xm (fun i => ⟨[(4, .v (.int .u64 (takeN (b.take i)))), (10, .v (.slice (some ⟨i0, k, none⟩) b.length c)), (11, .v (.int .i64 b.length)), (12, .v (.int .i64 i))], H⟩) b.length ⟨by simp [takeN], rfl⟩ ?_
  intro i hi K Q hK hQ
  simp [hg0]
  refine ⟨fun hl => ?_, fun hl => ?_⟩
  · have hx := hj i hl
    have hlt : takeN (b.take i) * 256 < 18446744073709551616 := by
      have h1 := takeN_lt (b.take i)
      rw [List.length_take, Nat.min_eq_left hi] at h1
      have h2 : 256 ^ i ≤ 256 ^ 7 := Nat.pow_le_pow_right (by decide) (by omega)
      omega
    have hbb : ((ix b i).toNat : Int) ≤ 18446744073709551615 := by have := (ix b i).toNat_lt; omega
    simp [hx, hbb]
    refine ⟨hl, by omega, by omega, hK _ _ hl ?_ rfl (by simp)⟩
    rw [or8 _ _ hlt (ix b i).toNat_lt]
    have e : takeN (b.take (i + 1)) = takeN (b.take i) * 256 + (ix b i).toNat := by
      rw [List.take_add_one, List.getElem?_eq_getElem hl, Option.toList_some, takeN_snoc, ix_eq hl]
    simp [e]
  · have hi : i = b.length := by omega
    subst hi
    refine hQ _ _ ?_
    simp
    exact Ans.refl (hR _ _ ⟨rfl, rfl⟩)
theorem put_be (v n : Nat) (hn : n ≤ 8) (hv : v < 256 ^ n) (H : Heap) :
    Sx.Fn Try.prog 41 [.int .u64 v, .int .i64 n] H fun r h => r = .tuple #[.slice (some ⟨H.length, 0, none⟩) n n, .int .i64 0] ∧ h = H ++ [some (.cells (u8s (be n v)) true 0)] := by
  have h1 : (256 : Nat) ^ n = 2 ^ (8 * n) := by rw [show (256 : Nat) = 2 ^ 8 from rfl, ← Nat.pow_mul]
  have h2 : 256 ^ n ≤ 256 ^ 8 := Nat.pow_le_pow_right (by decide) hn
  exact put_fn T v (by omega) n hn (fun _ => Nat.div_eq_of_lt (by omega)) H
/-- A number with a sign, of two bytes. -/
def sx (v : Nat) : Int := IntKind.i16.wrap v
theorem putInt_be (n : Int) (h1 : -32768 ≤ n) (h2 : n ≤ 32767) (H : Heap) :
    Sx.Fn Try.prog 71 [.int .i64 n] H fun r h => r = .tuple #[.slice (some ⟨H.length, 0, none⟩) 2 2, .int .i64 0] ∧ h = H ++ [some (.cells (u8s (be 2 (n % 65536).toNat)) true 0)] := by
  refine fn_w T xm Try.func71 rfl (by kernel_rfl) Try.results71 Try.ntmps71 (by simp) fun R hR => ?_
  have hw0 : IntKind.u16.wrap n = ((n % 65536).toNat : Int) := by
    simp [IntKind.wrap, IntKind.bits, IntKind.signed]; omega
  obtain ⟨v, hv⟩ : ∃ v : Nat, v = (n % 65536).toNat := ⟨_, rfl⟩
  rw [← hv] at hw0 hR
  have c1 : ¬ n < -32768 := by omega
  have c2 : ¬ 32768 ≤ n := by omega
  simp [c1, c2, hw0]
  refine ⟨by omega, ?_⟩
  refine CallK.is (put_be T v 2 (by omega) (by omega) _) ?_
  simp
  exact Ans.refl (hR _ _ ⟨rfl, rfl⟩)
theorem takeInt_bs (b : List UInt8) (hn : b.length = 2) (H : Heap) (v : Value) (hb : BS H v b) :
    Sx.Fn Try.prog 72 [v] H fun r h => r = .tuple #[.int .i64 (sx (takeN b)), .int .i64 0] ∧ h = H := by
  refine fn_w T xm Try.func72 rfl (by kernel_rfl) Try.results72 Try.ntmps72 (by simp) fun R hR => ?_
  obtain ⟨a, c, rfl, hx⟩ := id hb
  have hw : -32768 ≤ IntKind.i16.wrap (takeN b) ∧ IntKind.i16.wrap (takeN b) ≤ 32767 := by
    simp [IntKind.wrap, IntKind.bits, IntKind.signed]; omega
  simp [hn]
  refine CallK.is (take_bs T b (by omega) _ _ (by rw [← hn]; exact hb)) ?_
  simp
  refine ⟨by omega, ?_⟩
  exact Ans.refl (hR _ _ ⟨rfl, rfl⟩)
/-- What a plain field puts: the number of bytes lies in the box. -/
theorem plainPut_fn (v n : Nat) (hn : n ≤ 8) (hv : v < 256 ^ n) (H : Heap) (b : Nat) (u : Nat) (hb : hget H b = some (.cells [.int .i64 n] true u)) :
    Sx.Fn Try.prog 68 [.int .i64 v, .pointer (some ⟨b, 0, none⟩)] H fun r h => r = .tuple #[.slice (some ⟨H.length, 0, none⟩) n n, .int .i64 0] ∧ h = H ++ [some (.cells (u8s (be n v)) true 0)] := by
  refine fn_w T xm Try.func68 rfl (by kernel_rfl) Try.results68 Try.ntmps68 (by simp) fun R hR => ?_
  have h2 : 256 ^ n ≤ 256 ^ 8 := Nat.pow_le_pow_right (by decide) hn
  simp [hb]
  refine ⟨by omega, ?_⟩
  refine CallK.is (put_be T v n hn hv _) ?_
  simp
  exact Ans.refl (hR _ _ ⟨rfl, rfl⟩)
theorem plainTake_fn (b : List UInt8) (hn : b.length ≤ 7) (H : Heap) (v : Value) (hb : BS H v b) :
    Sx.Fn Try.prog 69 [v] H fun r h => r = .tuple #[.int .i64 (takeN b), .int .i64 0] ∧ h = H := by
  refine fn_w T xm Try.func69 rfl (by kernel_rfl) Try.results69 Try.ntmps69 (by simp) fun R hR => ?_
  have h1 := takeN_lt b
  have h2 : 256 ^ b.length ≤ 256 ^ 7 := Nat.pow_le_pow_right (by decide) hn
  simp
  refine CallK.is (take_bs T b (by omega) _ _ hb) ?_
  simp
  refine ⟨by omega, ?_⟩
  exact Ans.refl (hR _ _ ⟨rfl, rfl⟩)
end Go.Proofs
