/-
  Walks by Sx; no condition beyond those that stand in each statement.
-/
import Derived.Test.YtfefdjomenfchaaSxsMacD
import Derived.Test.YtfefdjomenfchaaSxsFlat
namespace Go.Proofs
open Go Go.Sx
set_option maxRecDepth 100000
attribute [local simp] xs setL_all u8_xor u8_or
variable (T : TyOk Try.prog (tyOf Try.prog Try.eqs)) (hm : Try.prog.follows .mixedOrders = true)
theorem zerosN_2 (l : List Value) (n : Nat) : zerosN l (n + 1) = l ++ zerosN l n := rfl
theorem xor_54 (x : UInt8) : Go.bits .xor .u8 (x.toNat : Int) 54 = ((xb x 54).toNat : Int) := u8_xor x 54
theorem xor_92 (x : UInt8) : Go.bits .xor .u8 (x.toNat : Int) 92 = ((xb x 92).toNat : Int) := u8_xor x 92
attribute [local simp] xor_54 xor_92
theorem xorL_succ (k : List UInt8) (y : UInt8) (i : Nat) (h : i < k.length) : xorL (k.take (i + 1)) y = xorL (k.take i) y ++ [xb (ix k i) y] := by
  unfold xorL
  rw [List.take_add_one, List.getElem?_eq_getElem h, List.map_append, ix_eq h]
  rfl
/-- What the copy leaves of the zeros. -/
theorem copy_key (k : List UInt8) (h : k.length ≤ 64) : setL (u8s zero64) 0 (u8s k) = u8s (key64 k) := by
  rw [setL_zero k h]
  unfold key64
  rw [if_neg (by omega)]
include T hm
theorem law05_MacMade_fn (k0 x0 : List UInt8) (a b : Option Addr) (n0 m0 c d : Nat) (hn0 : k0.length = n0) (hm0 : x0.length = m0) (H : Heap) (hr0 : Row H a n0 c (u8s k0)) (hs0 : Row H b m0 d (u8s x0)) :
    Sx.Fn Try.prog 9 [.slice a n0 c, .slice b m0 d] H fun r _ => r = .bool true := by
  refine fn_start T Try.func9 rfl (by kernel_rfl) Try.results9 Try.ntmps9 (by simp) ?_
  intro Q hQ
  simp only [argTm]
  refine cw_step T xs [0, 1] fun K1 hK1 => ?_
  simp
  refine hK1 _ ?_; clear hK1 K1
  refine cw_step T xs [0, 1, 5] fun K2 hK2 => ?_
  simp
  refine CallK.of (law05_shown_fn T hm _) ?_
  rintro _ hx ⟨rfl, he⟩
  replace he := he.symm
  subst he
  simp
  refine hK2 _ ?_; clear hK2 K2
  obtain ⟨k, hk⟩ : ∃ k, k = k0.take (min n0 64) := ⟨_, rfl⟩
  have q1 := Row.first hr0 (min n0 64) (by omega) hn0
  rw [← hk] at q1
  have hkl : k.length = min n0 64 := by rw [hk]; simp; omega
  have b1 : min n0 64 ≤ 64 := by omega
  have hmn : (if (64 : Int) < (n0 : Int) then (64 : Int) else (n0 : Int)) = ((min n0 64 : Nat) : Int) := by split <;> omega
  have hsub : ∀ (K : Value → Prop), (a = none → n0 = 0 → c = 0 → K (.slice none 0 0)) → K (.slice a (min n0 64) c) → True := fun _ _ _ => trivial
  clear hsub
  obtain ⟨h1, hco, hnc, h2⟩ := hr0
  refine cw_step T xs [0, 1, 5, 6] fun K3 hK3 => ?_
  simp
  refine hK3 ⟨[(0, .v (.slice a n0 c)), (1, .v (.slice b m0 d)), (5, .v (.bool true)), (6, .v (.pointer (some ⟨H.length, 0, none⟩)))], H ++ [some (.cells (u8s zero64) true 0)]⟩ ?_; clear hK3 K3
  refine cw_draw T hm xs [0, 1, 5, 6] (.soft 0 true <| .soft 1 false <| .soft 2 false <| .soft 3 false <| .soft 4 false <| .soft 5 true <| .alt 6 false (.stop) (.stop)) (by kernel_rfl) fun K4 hK4 => ?_
  have hz64 : zero64.length = 64 := rfl
  have r1 := rowOf_all q1
  have g : K4 ⟨[(0, .v (.slice a n0 c)), (1, .v (.slice b m0 d)), (5, .v (.bool true)), (6, .v (.pointer (some ⟨H.length, 0, none⟩)))], H ++ [some (.cells (u8s (key64 k)) true 0)]⟩ := by
    refine hK4 _ ?_; clear hK4
    obtain ⟨key, hkey⟩ : ∃ key, key = key64 k := ⟨_, rfl⟩
    have hkeyl : key.length = 64 := by rw [hkey]; exact key64_length k
    rw [← hkey]
    refine cw_step T xs [0, 1, 5, 6, 7] fun K5 hK5 => ?_
    simp
    refine hK5 _ ?_; clear hK5 K5
    refine cw_step T xs [0, 1, 5, 6, 7, 8] fun K6 hK6 => ?_
    simp
    refine hK6 _ ?_; clear hK6 K6
    refine cw_seq fun K7 hK7 => ?_
    refine cw_step T xs [0, 1, 5, 6, 7, 8, 9] fun K8 hK8 => ?_
    simp
    refine hK8 _ ?_; clear hK8 K8
    refine cw_block ?_
    refine cw_while (fun w s => ∃ i p q L cp u cq v, w = 64 - i ∧ i ≤ 64 ∧ p ≠ q ∧ hget L p = some (.cells (u8s (xorL (key.take i) 54)) true u) ∧ hget L q = some (.cells (u8s (xorL (key.take i) 92)) true v) ∧ ((cp = OPEN ∧ u = 1 ∧ cq = OPEN ∧ v = 1 ∧ 0 < i) ∨ (cp = 0 ∧ cq = 0 ∧ i = 0 ∧ p = 0 ∧ q = 1 ∧ u = 0 ∧ v = 0 ∧ L = [some (.cells [] true 0), some (.cells [] true 0)])) ∧ s = ⟨[(0, .v (.slice a n0 c)), (1, .v (.slice b m0 d)), (5, .v (.bool true)), (6, .v (.pointer (some ⟨H.length, 0, none⟩))), (7, .v (.slice (some ⟨H.length + (p + 1), 0, none⟩) i cp)), (8, .v (.slice (some ⟨H.length + (q + 1), 0, none⟩) i cq)), (9, .v (.int .i64 i))], H ++ (some (.cells (u8s key) true 0) :: L)⟩) 64 ⟨0, 0, 1, [some (.cells [] true 0), some (.cells [] true 0)], 0, 0, 0, 0, by omega, by omega, by omega, rfl, rfl, .inr ⟨rfl, rfl, rfl, rfl, rfl, rfl, rfl, rfl⟩, by rfl⟩ ?_
    rintro w s ⟨i, p, q, L, cp, u, cq, v, rfl, hi, hpq, hp, hq, hcase, rfl⟩
    refine cw_seq fun K9 hK9 => ?_
    refine cw_step T xs [0, 1, 5, 6, 7, 8, 9, 24] fun K10 hK10 => ?_
    simp
    refine hK10 _ ?_; clear hK10 K10
    refine cw_cond rfl (fun hc => ?_) (fun hc => ?_)
    · try simp at hc
      refine cw_skip ?_
      refine hK9 _ ?_; clear hK9
      refine cw_seq fun K11 hK11 => ?_
      refine cw_block ?_
      have hpL := hget_lt hp
      have hqL := hget_lt hq
      refine cw_step T xs [0, 1, 5, 6, 7, 8, 9] fun K12 hK12 => ?_
      have hxi : (xorL (key.take i) 54).length = i := by simp [xorL, hkeyl]; omega
      have hxj : (xorL (key.take i) 92).length = i := by simp [xorL, hkeyl]; omega
      have hsu := xorL_succ key 54 i (by omega)
      have hsv := xorL_succ key 92 i (by omega)
      have g12 : ∀ (L1 : Heap) (p1 : Nat), hget L1 p1 = some (.cells (u8s (xorL (key.take (i + 1)) 54)) true 1) → hget L1 q = some (.cells (u8s (xorL (key.take i) 92)) true v) → q ≠ p1 → L.length ≤ L1.length →
          K12 ⟨[(0, .v (.slice a n0 c)), (1, .v (.slice b m0 d)), (5, .v (.bool true)), (6, .v (.pointer (some ⟨H.length, 0, none⟩))), (7, .v (.slice (some ⟨H.length + (p1 + 1), 0, none⟩) (i + 1) OPEN)), (8, .v (.slice (some ⟨H.length + (q + 1), 0, none⟩) i cq)), (9, .v (.int .i64 i))], H ++ (some (.cells (u8s key) true 0) :: L1)⟩ := by
        intro L1 p1 e1 e2 hqp hLL
        have hp1 := hget_lt e1
        have hq1 := hget_lt e2
        refine hK12 _ ?_; clear hK12 K12
        refine cw_last T xs [0, 1, 5, 6, 7, 8, 9] fun K13 hK13 => ?_
        have g13 : ∀ (L2 : Heap) (q2 : Nat), hget L2 p1 = some (.cells (u8s (xorL (key.take (i + 1)) 54)) true 1) → hget L2 q2 = some (.cells (u8s (xorL (key.take (i + 1)) 92)) true 1) → p1 ≠ q2 → L.length ≤ L2.length →
            K13 ⟨[(0, .v (.slice a n0 c)), (1, .v (.slice b m0 d)), (5, .v (.bool true)), (6, .v (.pointer (some ⟨H.length, 0, none⟩))), (7, .v (.slice (some ⟨H.length + (p1 + 1), 0, none⟩) (i + 1) OPEN)), (8, .v (.slice (some ⟨H.length + (q2 + 1), 0, none⟩) (i + 1) OPEN)), (9, .v (.int .i64 i))], H ++ (some (.cells (u8s key) true 0) :: L2)⟩ := by
          intro L2 q2 f1 f2 hpq2 hLL2
          refine hK13 _ ?_; clear hK13 K13
          refine hK11 _ ?_; clear hK11
          refine cw_last T xs [0, 1, 5, 6, 7, 8, 9] fun K14 hK14 => ?_
          simp
          refine ⟨by omega, ?_⟩
          refine hK14 _ ?_; clear hK14 K14
          refine round_end (64 - (i + 1)) (by omega) ⟨i + 1, p1, q2, L2, OPEN, 1, OPEN, 1, rfl, by omega, hpq2, f1, f2, .inl ⟨rfl, rfl, rfl, rfl, by omega⟩, ?_⟩ (by simp; omega)
          rfl
        have hlen2 : ∀ (x2 y2 : Option Blk), hget ((L1 ++ [x2]).set q none ++ [y2]) (L1.length + 1) = y2 := fun x2 y2 => by
          have e := hget_append_new (h := (L1 ++ [x2]).set q none) (g := [y2]) (k := 0)
          rw [List.length_set, List.length_append] at e
          exact e.trans (hget_0 _ _)
        have hold2 : ∀ (x2 y2 : Option Blk), hget ((L1 ++ [x2]).set q none ++ [y2]) p1 = hget L1 p1 := fun x2 y2 => by
          rw [hget_append (by simp; omega), hget_set, if_neg (fun h => hqp h.1), hget_append hp1]
        have hold3 : ∀ (x2 y2 : Option Blk), hget (L1 ++ [x2, y2]) p1 = hget L1 p1 := fun x2 y2 => hget_append hp1
        have hnew3 : ∀ (x2 y2 : Option Blk), hget (L1 ++ [x2, y2]) (L1.length + 1) = y2 := fun x2 y2 => (hget_append_new (h := L1) (g := [x2, y2]) (k := 1)).trans (by simp)
        rcases hcase with ⟨rfl, rfl, rfl, rfl, hi0⟩ | ⟨rfl, rfl, rfl, rfl, rfl, rfl, rfl, rfl⟩
        · simp [e2, hget_append hq1, hkeyl, hxj, zerosN_2]
          refine ⟨by omega, by omega, by omega, ?_⟩
          exact g13 _ (L1.length + 1) ((hold2 _ _).trans e1) ((hlen2 _ _).trans (by rw [hsv]; simp [u8s])) (by omega) (by simp; omega)
        · simp [e2, hget_append hq1, hkeyl, zerosN_2]
          exact g13 _ (L1.length + 1) ((hold3 _ _).trans e1) ((hnew3 _ _).trans (by rw [hsv, ix_eq (by omega)]; simp [u8s, xorL])) (by omega) (by simp at hLL ⊢ <;> omega)
      have hlen1 : ∀ (x2 y2 : Option Blk), hget ((L ++ [x2]).set p none ++ [y2]) (L.length + 1) = y2 := fun x2 y2 => by
        have e := hget_append_new (h := (L ++ [x2]).set p none) (g := [y2]) (k := 0)
        rw [List.length_set, List.length_append] at e
        exact e.trans (hget_0 _ _)
      have hold1 : ∀ (x2 y2 : Option Blk), hget ((L ++ [x2]).set p none ++ [y2]) q = hget L q := fun x2 y2 => by
        rw [hget_append (by simp; omega), hget_set, if_neg (fun h => hpq h.1), hget_append hqL]
      rcases hcase with ⟨rfl, rfl, rfl, rfl, hi0⟩ | ⟨rfl, rfl, rfl, rfl, rfl, rfl, rfl, rfl⟩
      · simp [hp, hget_append hpL, hkeyl, hxi, zerosN_2]
        refine ⟨by omega, by omega, by omega, ?_⟩
        exact g12 _ (L.length + 1) ((hlen1 _ _).trans (by rw [hsu]; simp [u8s])) ((hold1 _ _).trans hq) (by omega) (by simp; omega)
      · simp [hkeyl, zerosN_2]
        exact g12 [some (.cells [] true 0), some (.cells [] true 0), some (.cells [Value.int IntKind.u8 (xb (key[0]'(by omega)) 54).toNat] true 0), some (.cells [Value.int IntKind.u8 (xb (key[0]'(by omega)) 54).toNat] true 1)] 3 (by rw [hsu, ix_eq (by omega)]; simp [u8s, xorL]) (by simp [u8s, xorL]) (by omega) (by simp)
    · try simp at hc
      have hi64 : i = 64 := by omega
      subst hi64
      rw [List.take_of_length_le (show key.length ≤ 64 by omega)] at hp hq
      rcases hcase with ⟨rfl, rfl, rfl, rfl, hi0⟩ | ⟨_, _, h0, _⟩
      · refine cw_exit ?_
        refine hK7 _ ?_; clear hK7
        have hpL := hget_lt hp
        have hqL := hget_lt hq
        have hx1 : (xorL key 54).length = 64 := by simp [xorL, hkeyl]
        have hx2 : (xorL key 92).length = 64 := by simp [xorL, hkeyl]
        obtain ⟨x, hx⟩ : ∃ x, x = x0.take (min m0 150) := ⟨_, rfl⟩
        have q2 := Row.first hs0 (min m0 150) (by omega) hm0
        rw [← hx] at q2
        have r2 := rowOf_all q2
        have hxl : x.length = min m0 150 := by rw [hx]; simp; omega
        have b2 : min m0 150 ≤ 150 := by omega
        have hs1 := Row_mono hs0 (some (.cells (u8s key) true 0) :: L)
        obtain ⟨V, hV⟩ : ∃ V, V = sumL (xorL key 54 ++ x) := ⟨_, rfl⟩
        have hVl : V.length = 32 := by rw [hV]; exact sumL_length _
        have hVt : V.take 32 = V := List.take_of_length_le (by omega)
        have hMV : sumL (xorL key 92 ++ V) = macL k x := by rw [hV, hkey]; rfl
        have hMl := macL_length k x
        refine cw_step T xs [0, 5, 7, 8, 10] fun K15 hK15 => ?_
        simp
        refine CallK.of (law05_few_fn T b m0 d _ _ hs1) ?_
        rintro _ _ ⟨rfl, rfl⟩
        simp
        refine hK15 _ ?_; clear hK15 K15
        generalize min m0 150 = m at *
        refine cw_step T xs [0, 5, 8, 10, 11] fun K16 hK16 => ?_
        have hN2 : ∀ M, hget (L.set p none ++ M) q = some (.cells (u8s (xorL key 92)) true 1) := fun M => by
          rw [hget_append (by simp; omega), hget_set, if_neg (fun h => hpq h.1), hq]
        have hxt54 : (xorL key 54).take (64 + m) = xorL key 54 := List.take_of_length_le (by omega)
        have hxt92 : (xorL key 92).take 96 = xorL key 92 := List.take_of_length_le (by omega)
        have hxtm : x.take m = x := List.take_of_length_le (by omega)
        have hVt2 : V.take 32 = V := hVt
        simp [r2, hp, hget_append hpL, hx1, hxl]
        refine ⟨by omega, ?_⟩
        obtain ⟨A, hA⟩ : ∃ A, A = L.set p none := ⟨_, rfl⟩
        have hAl : L.length = A.length := by rw [hA]; simp
        rw [← hA] at hN2 ⊢
        rw [hAl]
        refine CallK.of (sha_Sum_l T hm (xorL key 54 ++ x) (64 + m) (by simp [hx1, hxl]) (by omega) _ _ OPEN (by simp [hx1, hxl, List.take_append, hxt54, hxtm])) ?_
        rintro _ _ ⟨rfl, rfl⟩
        rw [← hV]
        simp [hVl]
        refine hK16 _ ?_; clear hK16 K16
        refine cw_draw T hm xs [4] (.soft 0 false <| .soft 1 false <| .soft 2 false <| .soft 3 false <| .soft 4 false <| .soft 5 false <| .soft 7 false <| .soft 9 false <| .alt 6 false (.alt 8 false (.alt 10 false (.alt 11 false (.alt 12 false (.soft 13 false <| .soft 14 false <| .soft 15 false <| .stop) (.stop)) (.stop)) (.stop)) (.alt 10 false (.alt 8 false (.alt 11 false (.alt 12 false (.soft 13 false <| .soft 14 false <| .soft 15 false <| .stop) (.stop)) (.stop)) (.stop)) (.stop))) (.alt 10 false (.alt 6 false (.alt 8 false (.alt 11 false (.alt 12 false (.soft 13 false <| .soft 14 false <| .soft 15 false <| .stop) (.stop)) (.stop)) (.stop)) (.stop)) (.stop))) (by kernel_rfl) fun K17 hK17 => ?_
        have hN3 : ∀ x1 x2 y : Option Blk, hget ((A ++ [x1, x2]).set q none ++ [y]) (A.length + 2) = y := fun x1 x2 y => by
          have e := hget_append_new (h := (A ++ [x1, x2]).set q none) (g := [y]) (k := 0)
          rw [List.length_set, List.length_append] at e
          exact e.trans (hget_0 _ _)
        rcases h2 with ⟨rfl, rfl, rfl⟩ | ⟨i, kk, cs, o, u, rfl, hc, h5, h6⟩
        · have hk0 : k.length = 0 := by omega
          simp [hVl, hVt, hN2, hx2, r2]
          repeat' (with_reducible refine And.intro ?_ ?_)
          all_goals
            refine CallK.of (mac_Of_fn T hm k 0 hk0 (by omega) x m hxl (by omega) _ none 0 (by cases List.eq_nil_of_length_eq_zero hk0; rfl) b d (r2 _)) ?_
            rintro _ _ ⟨rfl, rfl⟩
            simp [hN2, hVl, hVt, hx2]
            refine CallK.of (sha_Sum_l T hm (xorL key 92 ++ V) 96 (by simp [hx2, hVl]) (by omega) _ _ OPEN (by simp [hN3, hVl, hx2, List.take_append, hVt2, hxt92])) ?_
            rintro _ _ ⟨rfl, rfl⟩
            rw [hMV]
            simp [flatEq_u8b, hMl]
            refine hK17 _ ?_
            exact cw_ret (hQ _ (.bool true) _ _ (resC_one (by simp)) (Ret.plain rfl) rfl).2
        · have hmc : min n0 64 ≤ c := by omega
          simp [hco, hmn, hmc, hVl, hVt, hN2, hx2, r2]
          repeat' (with_reducible refine And.intro ?_ ?_)
          all_goals
            refine CallK.of (mac_Of_fn T hm k (min n0 64) hkl (by omega) x m hxl (by omega) _ _ c (r1 _) b d (r2 _)) ?_
            rintro _ _ ⟨rfl, rfl⟩
            simp [hN2, hVl, hVt, hx2]
            refine CallK.of (sha_Sum_l T hm (xorL key 92 ++ V) 96 (by simp [hx2, hVl]) (by omega) _ _ OPEN (by simp [hN3, hVl, hx2, List.take_append, hVt2, hxt92])) ?_
            rintro _ _ ⟨rfl, rfl⟩
            rw [hMV]
            simp [flatEq_u8b, hMl]
            refine hK17 _ ?_
            exact cw_ret (hQ _ (.bool true) _ _ (resC_one (by simp)) (Ret.plain rfl) rfl).2
      · omega
  rcases h2 with ⟨rfl, rfl, rfl⟩ | ⟨i, kk, cs, o, u, rfl, hc, h5, h6⟩
  · simp [r1]
    cases List.eq_nil_of_length_eq_zero (show k.length = 0 by omega)
    exact g
  · have hcc := copy_key k (by omega)
    have hset : setL (u8s zero64) 0 (u8s (k.take (min n0 64))) = u8s (key64 k) := by rw [List.take_of_length_le (by omega)]; exact hcc
    have e6 : (cs.drop kk).take (min n0 64) = u8s k := by
      rw [show (cs.drop kk).take (min n0 64) = ((cs.drop kk).take n0).take (min n0 64) by rw [List.take_take]; congr 1; omega, h6, hk]
      simp [u8s]
    have e7 : (u8s k).take (min n0 64) = u8s k := List.take_of_length_le (by rw [u8s_length]; omega)
    have e8 : ∀ x ∈ u8s k, one1 x = true := List.all_eq_true.1 (u8s_one1 k)
    simp [hco, hmn, r1, hkl, hz64, hget_old hc, e6, e7, hcc]
    refine ⟨by omega, by omega, ⟨by omega, e8, by omega⟩, g⟩
end Go.Proofs
