/-
  Walks by Sx; no condition beyond those that stand in each statement.
-/
import Derived.Test.YtfjdbhgnnpmceaaSxuRefC
namespace Go.Proofs
open Go Go.Sx
set_option maxRecDepth 100000
attribute [local simp] xm
def bI (b : List UInt8) (i : Nat) : Int := (ix b i).toNat
/-- What bytes may say. -/
def mayP (b : List UInt8) : Mg :=
  ⟨bI b 0, 16777216 * bI b 1 + 65536 * bI b 2 + 256 * bI b 3 + bI b 4, if bI b 0 = 1 ∨ bI b 0 = 2 then bI b 1 else 0, bI b 5, 256 * bI b 5 + bI b 6, bI b 7, bI b 7, bI b 5 == 1,
    sx (takeN [ix b 8, ix b 9]), sx (takeN [ix b 10, ix b 11]), sx (takeN [ix b 12, ix b 13]), sx (takeN [ix b 14, ix b 15])⟩
def rTakeP (b : List UInt8) : Option Mg := if 16 < b.length then none else if rPutP (namedP (mayP b)) = some b then some (namedP (mayP b)) else none
theorem bI_lt (b : List UInt8) (i : Nat) : 0 ≤ bI b i ∧ bI b i < 256 := by have := (ix b i).toNat_lt; simp only [bI]; omega
def mx (m : Mg) (b : List UInt8) : Nat → Mg
  | 0 => m
  | i + 1 => (mx m b i).put (8 + i) (sx (takeN [ix b (8 + 2 * i), ix b (9 + 2 * i)]))
variable (T : TyOk Try.prog (tyOf Try.prog Try.eqs)) (hm : Try.prog.follows .mixedOrders = true)
include T
theorem atI_fn (b : List UInt8) (i : Nat) (H : Heap) (v : Value) (hb : BS H v b) (hn : b.length < 9223372036854775807) :
    Sx.Fn Try.prog 52 [v, .int .i64 i] H fun r h => r = .int .i64 (bI b i) ∧ h = H := at_fn T b i H v hb hn
include hm
set_option maxHeartbeats 4000000 in
theorem refTake_fn (v : Value) (b : List UInt8) (H : Heap) (hb : BS H v b) (hn : b.length < 9223372036854775807) : Sx.Fn Try.prog 32 [v] H fun r h => TakeR H (rTakeP b) r h := by
  refine fn_w T xm Try.func32 rfl (by kernel_rfl) Try.results32 Try.ntmps32 (by simp) fun R hR => ?_
  obtain ⟨a, c, rfl, hx⟩ := id hb
  have hB : ∀ L, BS (H ++ L) (.slice a b.length c) b := fun L => hb.mono L
  have q := bI_lt b
  simp
  refine ⟨fun hl => ?_, fun hl => ?_⟩
  · have er : rTakeP b = none := if_pos (by omega)
    rw [er] at hR
    exact Ans.refl (hR _ _ ⟨_, rfl, rfl⟩)
  have q0 := q 0
  have q1 := q 1
  have q2 := q 2
  have q3 := q 3
  have q4 := q 4
  have q5 := q 5
  have q6 := q 6
  have q7 := q 7
  refine CallK.is (atI_fn T b 0 _ _ (hB _) hn) ?_
  simp
  refine CallK.is (atI_fn T b 1 _ _ (hB _) hn) ?_
  simp
  refine ⟨by omega, ?_⟩
  refine CallK.is (atI_fn T b 2 _ _ (hB _) hn) ?_
  simp
  refine ⟨by omega, by omega, ?_⟩
  refine CallK.is (atI_fn T b 3 _ _ (hB _) hn) ?_
  simp
  refine ⟨by omega, by omega, ?_⟩
  refine CallK.is (atI_fn T b 4 _ _ (hB _) hn) ?_
  simp
  refine ⟨by omega, ?_⟩
  have o1 : ∀ (i : Nat) (x : i < 12), one1 [Value.int IntKind.i64 (bI b 0), Value.int IntKind.i64 (16777216 * bI b 1 + 65536 * bI b 2 + 256 * bI b 3 + bI b 4), Value.int IntKind.i64 0, Value.int IntKind.i64 0, Value.int IntKind.i64 0, Value.int IntKind.i64 0, Value.int IntKind.i64 0, Value.bool false, Value.int IntKind.i64 0, Value.int IntKind.i64 0, Value.int IntKind.i64 0, Value.int IntKind.i64 0][i] = true := fun i x => (Mg.mk (bI b 0) (16777216 * bI b 1 + 65536 * bI b 2 + 256 * bI b 3 + bI b 4) 0 0 0 0 0 false 0 0 0 0).oneV i x
  refine ⟨o1, ?_⟩
  clear o1
  obtain ⟨rl, hrl⟩ : ∃ rl, rl = if bI b 0 = 1 ∨ bI b 0 = 2 then bI b 1 else 0 := ⟨_, rfl⟩
  have wB : ∀ k, IntKind.u8.wrap (bI b k) = ((ix b k).toNat : Int) := fun k => by have := q k; simp [bI, IntKind.wrap, IntKind.signed, IntKind.bits] at this ⊢; omega
  refine ⟨fun e1 => ⟨fun e2 => ?_, fun e2 => ?_⟩, fun e1 => ?_⟩
  · refine CallK.is (atI_fn T b 1 _ _ (hB _) hn) ?_
    simp
    refine CallK.is (atI_fn T b 5 _ _ (hB _) hn) ?_
    simp
    refine CallK.is (atI_fn T b 5 _ _ (hB _) hn) ?_
    simp
    refine CallK.is (atI_fn T b 5 _ _ (hB _) hn) ?_
    simp
    refine ⟨by omega, ?_⟩
    refine CallK.is (atI_fn T b 6 _ _ (hB _) hn) ?_
    simp
    refine ⟨by omega, ?_⟩
    refine CallK.is (atI_fn T b 7 _ _ (hB _) hn) ?_
    simp
    refine CallK.is (atI_fn T b 7 _ _ (hB _) hn) ?_
    simp
    obtain ⟨m0, hm0⟩ : ∃ m0 : Mg, m0 = ⟨bI b 0, 16777216 * bI b 1 + 65536 * bI b 2 + 256 * bI b 3 + bI b 4, bI b 1, bI b 5, 256 * bI b 5 + bI b 6, bI b 7, bI b 7, decide (bI b 5 = 1), 0, 0, 0, 0⟩ := ⟨_, rfl⟩
    refine W_forE T xm H (fun i (_ : Unit) => [(0, .v (.slice a b.length c)), (2, .v (.pointer (some ⟨H.length, 0, none⟩))), (4, .v (.pointer (some ⟨H.length + 1, 0, none⟩))), (5, .v (.int .i64 i))]) (fun i _ M => hget M 0 = some (.cells Mg.zero.cells true 0) ∧ hget M 1 = some (.cells (mx m0 b i).cells true 0)) 4 ⟨(), _, ⟨rfl, by rw [hm0]; rfl⟩, by simp, rfl⟩ ?_
    rintro i ⟨⟩ M hi ⟨g0, g1⟩ K Q hK hQ
    simp
    refine ⟨fun h => ?_, fun h => ?_⟩
    · refine ⟨by omega, by omega, ?_⟩
      have k8 : (8 : Int) + 2 * i = ((8 + 2 * i : Nat) : Int) := by omega
      have k9 : (9 : Int) + 2 * i = ((9 + 2 * i : Nat) : Int) := by omega
      rw [k8]
      refine CallK.is (atI_fn T b _ _ _ (hB _) hn) ?_
      simp
      refine ⟨by omega, by omega, ?_⟩
      rw [k9]
      refine CallK.is (atI_fn T b _ _ _ (hB _) hn) ?_
      simp [wB, zerosN_4, zerosN_0]
      refine CallK.is (rTakeInt_fn T hm [ix b (8 + 2 * i), ix b (9 + 2 * i)] rfl _ _ (BS.cells (b0 := [ix b (8 + 2 * i), ix b (9 + 2 * i)]) (o := true) (u := 0) (by simp [u8s]) rfl (by simp) (by simp) (by omega))) ?_
      simp
      have a1 := fun X => hget_old g1 X
      simp [a1]
      refine ⟨by omega, by omega, by omega, hK _ _ () (by omega) ⟨?_, ?_⟩ (by simp) (by simp)⟩
      · rw [hget_set, if_neg (by simp)]; exact hget_old g0 _
      · rw [hget_set, if_pos ⟨rfl, by have := hget_lt g1; simp; omega⟩, Mg.put_cells _ (by omega) (by omega)]; rfl
    · have h4 : i = 4 := by omega
      subst h4
      refine hQ _ _ ?_
      simp [g0, g1, Mg.take12]
      refine CallK.of (named_fn T _ _) ?_
      rintro _ _ ⟨rfl, L2, rfl⟩
      simp
      have a0 := fun X => hget_old g0 X
      have a1 := fun X => hget_old g1 X
      have hml := hget_lt g1
      have e12 : ∀ n m : Mg, setL n.cells 0 m.cells = m.cells := fun _ _ => rfl
      have eset : ∀ x, hget ((M ++ L2).set 1 (some x)) 1 = some x := fun x => by rw [hget_set, if_pos ⟨rfl, by simp; omega⟩]
      have ez : ∀ x, hget ((M ++ L2).set 1 x) 0 = some (.cells Mg.zero.cells true 0) := fun x => by rw [hget_set, if_neg (by simp)]; exact a0 _
      simp [a1, e12, eset, Mg.take12]
      refine ⟨Mg.oneM _, ?_⟩
      refine CallK.of (refPut_fn T hm _ _) ?_
      rintro r h ⟨L3, rfl, hr⟩
      have em : mayP b = mx m0 b 4 := by
        rw [hm0]
        simp [mayP, mx, Mg.put, e1, e2]; rfl
      have er : rTakeP b = if rPutP (namedP (mx m0 b 4)) = some b then some (namedP (mx m0 b 4)) else none := by
        rw [rTakeP, if_neg (by omega), em]
      rw [er] at hR
      clear er em
      have z0 : ∀ x X, hget ((M ++ L2).set 1 x ++ X) 0 = some (.cells Mg.zero.cells true 0) := fun x X => hget_old (ez x) X
      have z1 : ∀ x X y, hget (((M ++ L2).set 1 x ++ X).set 0 (some y)) 0 = some y := fun x X y => by rw [hget_set, if_pos ⟨rfl, by simp; omega⟩]
      have zc : ((((((((((((Mg.zero.cells.set 0 (Value.int IntKind.i64 0)).set 1 (Value.int IntKind.i64 0)).set 2 (Value.int IntKind.i64 0)).set 3 (Value.int IntKind.i64 0)).set 4 (Value.int IntKind.i64 0)).set 5 (Value.int IntKind.i64 0)).set 6 (Value.int IntKind.i64 0)).set 7 (Value.bool false)).set 8 (Value.int IntKind.i64 0)).set 9 (Value.int IntKind.i64 0)).set 10 (Value.int IntKind.i64 0)).set 11 (Value.int IntKind.i64 0)) = Mg.zero.cells := rfl
      cases ho : rPutP (namedP (mx m0 b 4)) with
      | none =>
        rw [ho] at hr hR
        subst hr
        simp at hR
        simp [z0, z1, zc, Mg.take12]
        exact Ans.refl (hR _ _ ⟨_, rfl, rfl⟩)
      | some o =>
        rw [ho] at hr hR
        obtain ⟨p, hp, rfl⟩ := hr
        simp at hR
        have epp : ∀ x, hget ((M ++ L2).set 1 x ++ L3) (p + (M.length + L2.length)) = hget L3 p := fun x => by
          have := hget_append_new (h := (M ++ L2).set 1 x) (g := L3) (k := p)
          rw [← this]; congr 1; simp; omega
        have er := fun X => (hB X).row.1
        simp [z0, z1, zc, Mg.take12, epp, hp, er]
        refine ⟨fun hne => ?_, fun heq => ?_⟩
        · rw [if_neg hne] at hR
          exact Ans.refl (hR _ _ ⟨_, rfl, rfl⟩)
        · rw [if_pos heq] at hR
          have z3 : ∀ x X, hget ((M ++ L2).set 1 (some x) ++ X) 1 = some x := fun x X => hget_old (eset x) X
          simp [z3, Mg.take12, e12]
          exact ⟨fun i x => (namedP (mx m0 b 4)).oneV i x, Ans.refl (hR _ _ ⟨_, rfl, rfl⟩)⟩
  · skip
    refine CallK.is (atI_fn T b 5 _ _ (hB _) hn) ?_
    simp
    refine CallK.is (atI_fn T b 5 _ _ (hB _) hn) ?_
    simp
    refine CallK.is (atI_fn T b 5 _ _ (hB _) hn) ?_
    simp
    refine ⟨by omega, ?_⟩
    refine CallK.is (atI_fn T b 6 _ _ (hB _) hn) ?_
    simp
    refine ⟨by omega, ?_⟩
    refine CallK.is (atI_fn T b 7 _ _ (hB _) hn) ?_
    simp
    refine CallK.is (atI_fn T b 7 _ _ (hB _) hn) ?_
    simp
    obtain ⟨m0, hm0⟩ : ∃ m0 : Mg, m0 = ⟨bI b 0, 16777216 * bI b 1 + 65536 * bI b 2 + 256 * bI b 3 + bI b 4, 0, bI b 5, 256 * bI b 5 + bI b 6, bI b 7, bI b 7, decide (bI b 5 = 1), 0, 0, 0, 0⟩ := ⟨_, rfl⟩
    refine W_forE T xm H (fun i (_ : Unit) => [(0, .v (.slice a b.length c)), (2, .v (.pointer (some ⟨H.length, 0, none⟩))), (4, .v (.pointer (some ⟨H.length + 1, 0, none⟩))), (5, .v (.int .i64 i))]) (fun i _ M => hget M 0 = some (.cells Mg.zero.cells true 0) ∧ hget M 1 = some (.cells (mx m0 b i).cells true 0)) 4 ⟨(), _, ⟨rfl, by rw [hm0]; rfl⟩, by simp, rfl⟩ ?_
    rintro i ⟨⟩ M hi ⟨g0, g1⟩ K Q hK hQ
    simp
    refine ⟨fun h => ?_, fun h => ?_⟩
    · refine ⟨by omega, by omega, ?_⟩
      have k8 : (8 : Int) + 2 * i = ((8 + 2 * i : Nat) : Int) := by omega
      have k9 : (9 : Int) + 2 * i = ((9 + 2 * i : Nat) : Int) := by omega
      rw [k8]
      refine CallK.is (atI_fn T b _ _ _ (hB _) hn) ?_
      simp
      refine ⟨by omega, by omega, ?_⟩
      rw [k9]
      refine CallK.is (atI_fn T b _ _ _ (hB _) hn) ?_
      simp [wB, zerosN_4, zerosN_0]
      refine CallK.is (rTakeInt_fn T hm [ix b (8 + 2 * i), ix b (9 + 2 * i)] rfl _ _ (BS.cells (b0 := [ix b (8 + 2 * i), ix b (9 + 2 * i)]) (o := true) (u := 0) (by simp [u8s]) rfl (by simp) (by simp) (by omega))) ?_
      simp
      have a1 := fun X => hget_old g1 X
      simp [a1]
      refine ⟨by omega, by omega, by omega, hK _ _ () (by omega) ⟨?_, ?_⟩ (by simp) (by simp)⟩
      · rw [hget_set, if_neg (by simp)]; exact hget_old g0 _
      · rw [hget_set, if_pos ⟨rfl, by have := hget_lt g1; simp; omega⟩, Mg.put_cells _ (by omega) (by omega)]; rfl
    · have h4 : i = 4 := by omega
      subst h4
      refine hQ _ _ ?_
      simp [g0, g1, Mg.take12]
      refine CallK.of (named_fn T _ _) ?_
      rintro _ _ ⟨rfl, L2, rfl⟩
      simp
      have a0 := fun X => hget_old g0 X
      have a1 := fun X => hget_old g1 X
      have hml := hget_lt g1
      have e12 : ∀ n m : Mg, setL n.cells 0 m.cells = m.cells := fun _ _ => rfl
      have eset : ∀ x, hget ((M ++ L2).set 1 (some x)) 1 = some x := fun x => by rw [hget_set, if_pos ⟨rfl, by simp; omega⟩]
      have ez : ∀ x, hget ((M ++ L2).set 1 x) 0 = some (.cells Mg.zero.cells true 0) := fun x => by rw [hget_set, if_neg (by simp)]; exact a0 _
      simp [a1, e12, eset, Mg.take12]
      refine ⟨Mg.oneM _, ?_⟩
      refine CallK.of (refPut_fn T hm _ _) ?_
      rintro r h ⟨L3, rfl, hr⟩
      have em : mayP b = mx m0 b 4 := by
        rw [hm0]
        simp [mayP, mx, Mg.put, e1, e2]; rfl
      have er : rTakeP b = if rPutP (namedP (mx m0 b 4)) = some b then some (namedP (mx m0 b 4)) else none := by
        rw [rTakeP, if_neg (by omega), em]
      rw [er] at hR
      clear er em
      have z0 : ∀ x X, hget ((M ++ L2).set 1 x ++ X) 0 = some (.cells Mg.zero.cells true 0) := fun x X => hget_old (ez x) X
      have z1 : ∀ x X y, hget (((M ++ L2).set 1 x ++ X).set 0 (some y)) 0 = some y := fun x X y => by rw [hget_set, if_pos ⟨rfl, by simp; omega⟩]
      have zc : ((((((((((((Mg.zero.cells.set 0 (Value.int IntKind.i64 0)).set 1 (Value.int IntKind.i64 0)).set 2 (Value.int IntKind.i64 0)).set 3 (Value.int IntKind.i64 0)).set 4 (Value.int IntKind.i64 0)).set 5 (Value.int IntKind.i64 0)).set 6 (Value.int IntKind.i64 0)).set 7 (Value.bool false)).set 8 (Value.int IntKind.i64 0)).set 9 (Value.int IntKind.i64 0)).set 10 (Value.int IntKind.i64 0)).set 11 (Value.int IntKind.i64 0)) = Mg.zero.cells := rfl
      cases ho : rPutP (namedP (mx m0 b 4)) with
      | none =>
        rw [ho] at hr hR
        subst hr
        simp at hR
        simp [z0, z1, zc, Mg.take12]
        exact Ans.refl (hR _ _ ⟨_, rfl, rfl⟩)
      | some o =>
        rw [ho] at hr hR
        obtain ⟨p, hp, rfl⟩ := hr
        simp at hR
        have epp : ∀ x, hget ((M ++ L2).set 1 x ++ L3) (p + (M.length + L2.length)) = hget L3 p := fun x => by
          have := hget_append_new (h := (M ++ L2).set 1 x) (g := L3) (k := p)
          rw [← this]; congr 1; simp; omega
        have er := fun X => (hB X).row.1
        simp [z0, z1, zc, Mg.take12, epp, hp, er]
        refine ⟨fun hne => ?_, fun heq => ?_⟩
        · rw [if_neg hne] at hR
          exact Ans.refl (hR _ _ ⟨_, rfl, rfl⟩)
        · rw [if_pos heq] at hR
          have z3 : ∀ x X, hget ((M ++ L2).set 1 (some x) ++ X) 1 = some x := fun x X => hget_old (eset x) X
          simp [z3, Mg.take12, e12]
          exact ⟨fun i x => (namedP (mx m0 b 4)).oneV i x, Ans.refl (hR _ _ ⟨_, rfl, rfl⟩)⟩
  · refine CallK.is (atI_fn T b 1 _ _ (hB _) hn) ?_
    simp
    refine CallK.is (atI_fn T b 5 _ _ (hB _) hn) ?_
    simp
    refine CallK.is (atI_fn T b 5 _ _ (hB _) hn) ?_
    simp
    refine CallK.is (atI_fn T b 5 _ _ (hB _) hn) ?_
    simp
    refine ⟨by omega, ?_⟩
    refine CallK.is (atI_fn T b 6 _ _ (hB _) hn) ?_
    simp
    refine ⟨by omega, ?_⟩
    refine CallK.is (atI_fn T b 7 _ _ (hB _) hn) ?_
    simp
    refine CallK.is (atI_fn T b 7 _ _ (hB _) hn) ?_
    simp
    obtain ⟨m0, hm0⟩ : ∃ m0 : Mg, m0 = ⟨bI b 0, 16777216 * bI b 1 + 65536 * bI b 2 + 256 * bI b 3 + bI b 4, bI b 1, bI b 5, 256 * bI b 5 + bI b 6, bI b 7, bI b 7, decide (bI b 5 = 1), 0, 0, 0, 0⟩ := ⟨_, rfl⟩
    refine W_forE T xm H (fun i (_ : Unit) => [(0, .v (.slice a b.length c)), (2, .v (.pointer (some ⟨H.length, 0, none⟩))), (4, .v (.pointer (some ⟨H.length + 1, 0, none⟩))), (5, .v (.int .i64 i))]) (fun i _ M => hget M 0 = some (.cells Mg.zero.cells true 0) ∧ hget M 1 = some (.cells (mx m0 b i).cells true 0)) 4 ⟨(), _, ⟨rfl, by rw [hm0]; rfl⟩, by simp, rfl⟩ ?_
    rintro i ⟨⟩ M hi ⟨g0, g1⟩ K Q hK hQ
    simp
    refine ⟨fun h => ?_, fun h => ?_⟩
    · refine ⟨by omega, by omega, ?_⟩
      have k8 : (8 : Int) + 2 * i = ((8 + 2 * i : Nat) : Int) := by omega
      have k9 : (9 : Int) + 2 * i = ((9 + 2 * i : Nat) : Int) := by omega
      rw [k8]
      refine CallK.is (atI_fn T b _ _ _ (hB _) hn) ?_
      simp
      refine ⟨by omega, by omega, ?_⟩
      rw [k9]
      refine CallK.is (atI_fn T b _ _ _ (hB _) hn) ?_
      simp [wB, zerosN_4, zerosN_0]
      refine CallK.is (rTakeInt_fn T hm [ix b (8 + 2 * i), ix b (9 + 2 * i)] rfl _ _ (BS.cells (b0 := [ix b (8 + 2 * i), ix b (9 + 2 * i)]) (o := true) (u := 0) (by simp [u8s]) rfl (by simp) (by simp) (by omega))) ?_
      simp
      have a1 := fun X => hget_old g1 X
      simp [a1]
      refine ⟨by omega, by omega, by omega, hK _ _ () (by omega) ⟨?_, ?_⟩ (by simp) (by simp)⟩
      · rw [hget_set, if_neg (by simp)]; exact hget_old g0 _
      · rw [hget_set, if_pos ⟨rfl, by have := hget_lt g1; simp; omega⟩, Mg.put_cells _ (by omega) (by omega)]; rfl
    · have h4 : i = 4 := by omega
      subst h4
      refine hQ _ _ ?_
      simp [g0, g1, Mg.take12]
      refine CallK.of (named_fn T _ _) ?_
      rintro _ _ ⟨rfl, L2, rfl⟩
      simp
      have a0 := fun X => hget_old g0 X
      have a1 := fun X => hget_old g1 X
      have hml := hget_lt g1
      have e12 : ∀ n m : Mg, setL n.cells 0 m.cells = m.cells := fun _ _ => rfl
      have eset : ∀ x, hget ((M ++ L2).set 1 (some x)) 1 = some x := fun x => by rw [hget_set, if_pos ⟨rfl, by simp; omega⟩]
      have ez : ∀ x, hget ((M ++ L2).set 1 x) 0 = some (.cells Mg.zero.cells true 0) := fun x => by rw [hget_set, if_neg (by simp)]; exact a0 _
      simp [a1, e12, eset, Mg.take12]
      refine ⟨Mg.oneM _, ?_⟩
      refine CallK.of (refPut_fn T hm _ _) ?_
      rintro r h ⟨L3, rfl, hr⟩
      have em : mayP b = mx m0 b 4 := by
        rw [hm0]
        simp [mayP, mx, Mg.put, e1, e1]; rfl
      have er : rTakeP b = if rPutP (namedP (mx m0 b 4)) = some b then some (namedP (mx m0 b 4)) else none := by
        rw [rTakeP, if_neg (by omega), em]
      rw [er] at hR
      clear er em
      have z0 : ∀ x X, hget ((M ++ L2).set 1 x ++ X) 0 = some (.cells Mg.zero.cells true 0) := fun x X => hget_old (ez x) X
      have z1 : ∀ x X y, hget (((M ++ L2).set 1 x ++ X).set 0 (some y)) 0 = some y := fun x X y => by rw [hget_set, if_pos ⟨rfl, by simp; omega⟩]
      have zc : ((((((((((((Mg.zero.cells.set 0 (Value.int IntKind.i64 0)).set 1 (Value.int IntKind.i64 0)).set 2 (Value.int IntKind.i64 0)).set 3 (Value.int IntKind.i64 0)).set 4 (Value.int IntKind.i64 0)).set 5 (Value.int IntKind.i64 0)).set 6 (Value.int IntKind.i64 0)).set 7 (Value.bool false)).set 8 (Value.int IntKind.i64 0)).set 9 (Value.int IntKind.i64 0)).set 10 (Value.int IntKind.i64 0)).set 11 (Value.int IntKind.i64 0)) = Mg.zero.cells := rfl
      cases ho : rPutP (namedP (mx m0 b 4)) with
      | none =>
        rw [ho] at hr hR
        subst hr
        simp at hR
        simp [z0, z1, zc, Mg.take12]
        exact Ans.refl (hR _ _ ⟨_, rfl, rfl⟩)
      | some o =>
        rw [ho] at hr hR
        obtain ⟨p, hp, rfl⟩ := hr
        simp at hR
        have epp : ∀ x, hget ((M ++ L2).set 1 x ++ L3) (p + (M.length + L2.length)) = hget L3 p := fun x => by
          have := hget_append_new (h := (M ++ L2).set 1 x) (g := L3) (k := p)
          rw [← this]; congr 1; simp; omega
        have er := fun X => (hB X).row.1
        simp [z0, z1, zc, Mg.take12, epp, hp, er]
        refine ⟨fun hne => ?_, fun heq => ?_⟩
        · rw [if_neg hne] at hR
          exact Ans.refl (hR _ _ ⟨_, rfl, rfl⟩)
        · rw [if_pos heq] at hR
          have z3 : ∀ x X, hget ((M ++ L2).set 1 (some x) ++ X) 1 = some x := fun x X => hget_old (eset x) X
          simp [z3, Mg.take12, e12]
          exact ⟨fun i x => (namedP (mx m0 b 4)).oneV i x, Ans.refl (hR _ _ ⟨_, rfl, rfl⟩)⟩
end Go.Proofs
