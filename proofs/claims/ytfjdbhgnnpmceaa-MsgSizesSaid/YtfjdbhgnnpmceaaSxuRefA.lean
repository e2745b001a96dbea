/-
  Walks by Sx; no condition beyond those that stand in each statement.
-/
import Derived.Test.YtfjdbhgnnpmceaaSxuMsgG
namespace Go.Proofs
open Go Go.Sx
set_option maxRecDepth 100000
attribute [local simp] xm
theorem zerosN_u8 : ∀ n, zerosN [.int .u8 0] n = u8s (List.replicate n 0)
  | 0 => rfl
  | n + 1 => by rw [zerosN_4, zerosN_u8 n]; rfl
theorem be_drop (v : Nat) {n j : Nat} (h : j < n) : (be n v).drop j = putB v n j :: (be n v).drop (j + 1) := by
  rw [List.drop_eq_getElem_cons (by simpa using h)]
  simp [be]
variable (T : TyOk Try.prog (tyOf Try.prog Try.eqs)) (hm : Try.prog.follows .mixedOrders = true)
include T
theorem in_fn (n lo hi : Int) (H : Heap) : Sx.Fn Try.prog 55 [.int .i64 n, .int .i64 lo, .int .i64 hi] H fun r h => r = .bool (decide (lo ≤ n ∧ n ≤ hi)) ∧ h = H := by
  refine fn_w T xm Try.func55 rfl (by kernel_rfl) Try.results55 Try.ntmps55 (by simp) fun R hR => ?_
  simp
  refine ⟨fun h1 => ?_, fun h1 => ?_⟩
  · exact Ans.refl (hR _ _ ⟨by simp [h1], rfl⟩)
  · exact Ans.refl (hR _ _ ⟨by simp; omega, rfl⟩)
set_option maxHeartbeats 1000000 in
theorem rPut_fn (v n : Nat) (hn : n ≤ 8) (hv : v < 256 ^ n) (H : Heap) :
    Sx.Fn Try.prog 67 [.int .u64 v, .int .i64 n] H fun r h => r = .tuple #[.slice (some ⟨H.length, 0, none⟩) n n, .int .i64 0] ∧ h = H ++ [some (.cells (u8s (be n v)) true 0)] := by
  refine fn_w T xm Try.func67 rfl (by kernel_rfl) Try.results67 Try.ntmps67 (by simp) fun R hR => ?_
  have c1 : ¬ (n : Int) < 0 := by omega
  have c2 : ¬ (8 : Int) < n := by omega
  simp [c1, c2, zerosN_u8]
  refine ⟨⟨by omega, by omega⟩, ⟨by omega, by omega⟩, ?_⟩
  have hp8 : 256 ^ n ≤ 256 ^ 8 := Nat.pow_le_pow_right (by decide) hn
  obtain ⟨qf, hqf⟩ : ∃ f : Nat → Nat, f = fun i => v / 256 ^ i := ⟨_, rfl⟩
  have q0 : qf 0 = v := by simp [hqf]
  have qs : ∀ i, qf (i + 1) = qf i / 256 := fun i => by simp [hqf, Nat.pow_succ, Nat.div_div_eq_div_mul]
  have qv : ∀ i, qf i ≤ v := fun i => by rw [hqf]; exact Nat.div_le_self _ _
  have qb : ∀ i, i < n → putB v n (n - 1 - i) = UInt8.ofNat (qf i) := fun i h => by
    simp only [putB, hqf]
    rw [show n - 1 - (n - 1 - i) = i by omega, Nat.pow_mul]
  have qn : qf n = 0 := by rw [hqf]; exact Nat.div_eq_of_lt hv
  clear hqf
  refine W_for T xm (fun i => ⟨[(0, .v (.int .u64 (qf i : Nat))), (6, .v (.slice (some ⟨H.length, 0, none⟩) n n)), (7, .v (.int .i64 ((n : Int) - 1 - i)))], H ++ [some (.cells (u8s (List.replicate (n - i) 0 ++ (be n v).drop (n - i))) true 0)]⟩) n ⟨by simp [q0], by simp [List.drop_eq_nil_of_le]⟩ ?_
  intro i hi K Q hK hQ
  simp
  refine ⟨fun h => ?_, fun h => ?_⟩
  · have e1 : (n : Int) - 1 - i = ((n - 1 - i : Nat) : Int) := by omega
    have hd := qv i
    replace h : i < n := by omega
    have e2 : List.replicate (n - i) (0 : UInt8) = List.replicate (n - 1 - i) 0 ++ [0] := by
      rw [show n - i = (n - 1 - i) + 1 by omega, List.replicate_succ']
    have e3 : ((qf i : Nat) : Int) % 256 = ((qf i % 256 : Nat) : Int) := by omega
    simp [e1]
    refine ⟨⟨by omega, by omega⟩, by omega, by omega, ⟨by omega, by omega⟩, hK _ _ h ?_ ?_ (by simp)⟩
    · simp [qs]
      omega
    · rw [e3, u8s_put]
      simp only [List.append_cancel_left_eq, List.cons.injEq, and_true, Option.some.injEq, Blk.cells.injEq]
      congr 1
      rw [e2, List.append_assoc, List.set_append_right _ _ (by simp)]
      simp only [List.length_replicate, Nat.sub_self, List.singleton_append, List.set_cons_zero]
      rw [show n - (i + 1) = n - 1 - i by omega, be_drop v (by omega), qb i h, show n - 1 - i + 1 = n - i by omega]
      congr 2
      apply UInt8.toNat.inj
      simp
    done
  · have hin : i = n := by omega
    subst hin
    refine hQ _ _ ?_
    simp [qn]
    exact Ans.refl (hR _ _ ⟨rfl, rfl⟩)
theorem rput_fn (n : Int) (k : Nat) (hk : k ≤ 8) (h0 : 0 ≤ n) (hv : n < (256 ^ k : Nat)) (hb : n < 9223372036854775808) (H : Heap) :
    Sx.Fn Try.prog 50 [.int .i64 n, .int .i64 k] H fun r h => r = .slice (some ⟨H.length, 0, none⟩) k k ∧ h = H ++ [some (.cells (u8s (be k n.toNat)) true 0)] := by
  refine fn_w T xm Try.func50 rfl (by kernel_rfl) Try.results50 Try.ntmps50 (by simp) fun R hR => ?_
  obtain ⟨v, rfl⟩ : ∃ v : Nat, n = v := ⟨n.toNat, by omega⟩
  have hw : IntKind.u64.wrap (v : Int) = v := by simp [IntKind.wrap, IntKind.bits, IntKind.signed]; omega
  simp
  refine ⟨by omega, ?_⟩
  refine CallK.is (rPut_fn T v k hk (by omega) _) ?_
  simp
  exact Ans.refl (hR _ _ ⟨rfl, rfl⟩)
theorem rPutInt_fn (n : Int) (h1 : -32768 ≤ n) (h2 : n ≤ 32767) (H : Heap) :
    Sx.Fn Try.prog 51 [.int .i64 n] H fun r h => r = .tuple #[.slice (some ⟨H.length, 0, none⟩) 2 2, .int .i64 0] ∧ h = H ++ [some (.cells (u8s (be 2 (n % 65536).toNat)) true 0)] := by
  refine fn_w T xm Try.func51 rfl (by kernel_rfl) Try.results51 Try.ntmps51 (by simp) fun R hR => ?_
  have c1 : ¬ n < -32768 := by omega
  have c2 : ¬ 32767 < n := by omega
  have c3 : ¬ 32768 ≤ n := by omega
  have e := fun w (hw : w = (n % 65536).toNat) => rPut_fn T w 2 (by omega) (by omega) H
  simp [c1, c2]
  refine ⟨fun h => ⟨by omega, by omega, ?_⟩, fun h => ⟨by omega, ?_⟩⟩
  · have q : n + 65536 = ((n % 65536).toNat : Int) := by omega
    rw [q]
    refine CallK.is (e _ rfl) ?_
    simp
    exact Ans.refl (hR _ _ ⟨rfl, rfl⟩)
  · have q : n = ((n % 65536).toNat : Int) := by omega
    have e' := e _ rfl
    rw [← q] at e'
    refine CallK.is e' ?_
    simp
    exact Ans.refl (hR _ _ ⟨rfl, rfl⟩)
theorem at_fn (b : List UInt8) (i : Nat) (H : Heap) (v : Value) (hb : BS H v b) (hn : b.length < 9223372036854775807) :
    Sx.Fn Try.prog 52 [v, .int .i64 i] H fun r h => r = .int .i64 (ix b i).toNat ∧ h = H := by
  refine fn_w T xm Try.func52 rfl (by kernel_rfl) Try.results52 Try.ntmps52 (by simp) fun R hR => ?_
  obtain ⟨a, c, rfl, hx⟩ := id hb
  have hq := (ix b i).toNat_lt
  have hz : IntKind.i64.wrap ((ix b i).toNat : Int) = (ix b i).toNat := by simp [IntKind.wrap, IntKind.signed, IntKind.bits]; omega
  simp
  refine ⟨fun h => ?_, fun h => ?_⟩
  · have e : ix b i = 0 := by simp [ix, List.getElem?_eq_none h]; rfl
    exact Ans.refl (hR _ _ ⟨by simp [e], rfl⟩)
  · obtain ⟨pt, hix, hld⟩ := BS.at hb (ty := tyOf Try.prog Try.eqs) (e := 5) Try.ty5 (j := i) (by omega) .i64
    have hld := hld []
    rw [List.append_nil] at hld
    simp [hix, hld]
    exact ⟨by omega, Ans.refl (hR _ _ ⟨rfl, rfl⟩)⟩
include hm in
theorem rTakeInt_fn (b : List UInt8) (hn : b.length = 2) (H : Heap) (v : Value) (hb : BS H v b) :
    Sx.Fn Try.prog 53 [v] H fun r h => r = .tuple #[.int .i64 (sx (takeN b)), .int .i64 0] ∧ h = H := by
  refine fn_w T xm Try.func53 rfl (by kernel_rfl) Try.results53 Try.ntmps53 (by simp) fun R hR => ?_
  obtain ⟨a, c, rfl, hx⟩ := id hb
  obtain ⟨x, y, rfl⟩ : ∃ x y, b = [x, y] := by
    match b, hn with
    | [x, y], _ => exact ⟨x, y, rfl⟩
  obtain ⟨p0, hi0, hl0⟩ := BS.at hb (ty := tyOf Try.prog Try.eqs) (e := 5) Try.ty5 (j := 0) (by simp) .i64
  obtain ⟨p1, hi1, hl1⟩ := BS.at hb (ty := tyOf Try.prog Try.eqs) (e := 5) Try.ty5 (j := 1) (by simp) .i64
  replace hl0 := hl0 []
  replace hl1 := hl1 []
  rw [List.append_nil] at hl0 hl1
  simp [ix] at hi0 hl0 hi1 hl1
  have hx := x.toNat_lt
  have hy := y.toNat_lt
  have zx : IntKind.i64.wrap (x.toNat : Int) = x.toNat := by simp [IntKind.wrap, IntKind.signed, IntKind.bits]; omega
  have zy : IntKind.i64.wrap (y.toNat : Int) = y.toNat := by simp [IntKind.wrap, IntKind.signed, IntKind.bits]; omega
  simp
  refine cw_drawl T hm xm [4] (.soft 0 false <| .soft 1 false <| .soft 2 true <| .soft 3 true <| .soft 4 false <| .soft 5 false <| .soft 6 false <| .soft 7 true <| .soft 8 true <| .soft 9 false <| .soft 10 false <| .stop) (by kernel_rfl) fun K hK => ?_
  simp [hi0, hl0, hi1, hl1]
  refine ⟨by omega, by omega, by omega, by omega, hK _ ?_⟩
  have es : sx (takeN [x, y]) = if 32767 < 256 * (x.toNat : Int) + y.toNat then 256 * (x.toNat : Int) + y.toNat - 65536 else 256 * (x.toNat : Int) + y.toNat := by
    have ew : takeN [x, y] = x.toNat * 256 + y.toNat := by simp [takeN]
    rw [ew]
    simp [sx, IntKind.wrap, IntKind.bits, IntKind.signed]
    split <;> split <;> omega
  simp
  refine ⟨fun h => ⟨by omega, Ans.refl (hR _ _ ⟨?_, rfl⟩)⟩, fun h => Ans.refl (hR _ _ ⟨?_, rfl⟩)⟩
  · rw [es, if_pos (by omega)]
  · rw [es, if_neg (by omega)]
end Go.Proofs
