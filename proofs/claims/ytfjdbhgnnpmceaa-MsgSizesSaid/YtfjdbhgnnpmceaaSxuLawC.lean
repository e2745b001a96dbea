/-
  Walks by Sx; no condition beyond those that stand in each statement.
-/
import Derived.Test.YtfjdbhgnnpmceaaSxuLawA
namespace Go.Proofs
open Go Go.Sx
set_option maxRecDepth 100000
attribute [local simp] xm
/-- Of two messages' bytes, none are the beginning of the other's. -/
theorem prefix_free {x y : Mg} (hx : fitsP x ∧ namedP x = x) (hy : fitsP y ∧ namedP y = y) : (List.take (min (bytesP x).length (bytesP y).length) (bytesP x) = List.take (min (bytesP x).length (bytesP y).length) (bytesP y)) ↔ x = y := by
  constructor
  · intro h
    obtain ⟨r, hr⟩ := bytes_head x
    obtain ⟨t, ht⟩ := bytes_head y
    have k1 := fits_kind hx.1
    have k2 := fits_kind hy.1
    have hk : b8 x.kind = b8 y.kind := by
      rw [hr, ht] at h
      simp only [List.length_cons] at h
      rw [show min (r.length + 1) (t.length + 1) = min r.length t.length + 1 by omega] at h
      simp only [List.take_succ_cons, List.cons.injEq] at h
      exact h.1
    have hkk : x.kind = y.kind := by
      have := congrArg UInt8.toNat hk
      simp [b8] at this
      omega
    have hl : (bytesP x).length = (bytesP y).length := by rw [bytes_size, bytes_size, hkk]
    rw [hl, Nat.min_self, List.take_of_length_le (by omega), List.take_of_length_le (by omega)] at h
    exact rPutP_inj (rPutP_some.2 ⟨hx.1, hx.2, rfl⟩) (rPutP_some.2 ⟨hy.1, hy.2, h.symm⟩)
  · rintro rfl; rfl
variable (T : TyOk Try.prog (tyOf Try.prog Try.eqs)) (hm : Try.prog.follows .mixedOrders = true)
include T hm
set_option maxHeartbeats 4000000 in
theorem msgSizes_fn (m n : Mg) (H : Heap) : Sx.Fn Try.prog 4 [.agg m.cells.toArray, .agg n.cells.toArray] H fun r _ => r = .bool true := by
  refine fn_w T xm Try.func4 rfl (by kernel_rfl) Try.results4 Try.ntmps4 (by simp) fun R hR => ?_
  simp
  refine CallK.of (shown8_fn T hm _) ?_
  rintro _ _ ⟨rfl, L, rfl⟩
  simp [Mg.take12]
  refine CallK.of (fitS_fn T _ _) ?_
  rintro _ _ ⟨x, o, L2, rfl, ho, hf, hn, rfl, rfl⟩
  have o1 := Mg.oneM x
  have o2 := Mg.oneV x
  simp only [Mg.cells_length] at o2
  simp [Mg.take12, setZ]
  refine ⟨o1, ?_⟩
  refine CallK.of (fitS_fn T _ _) ?_
  rintro _ _ ⟨y, o, L3, rfl, ho', hf', hn', rfl, rfl⟩
  have p1 := Mg.oneM y
  have p2 := Mg.oneV y
  simp only [Mg.cells_length] at p2
  simp [Mg.take12, setZ]
  refine ⟨p1, ?_⟩
  refine CallK.of (msgPutS_fn T hm x _ ho _) ?_
  rintro _ _ ⟨L4, a, c, rfl, rfl, hb⟩
  simp [Mg.take12]
  refine CallK.of (msgPutS_fn T hm y _ ho' _) ?_
  rintro _ _ ⟨L5, a2, c2, rfl, rfl, hb2⟩
  obtain ⟨r1, hr1⟩ := bytes_head x
  obtain ⟨r2, hr2⟩ := bytes_head y
  have hx0 : ¬ bytesP x = [] := by rw [hr1]; simp
  have hy0 : ¬ bytesP y = [] := by rw [hr2]; simp
  simp [hx0, hy0]
  obtain ⟨nn, hnn⟩ : ∃ nn, nn = min (bytesP x).length (bytesP y).length := ⟨_, rfl⟩
  have e0 : (if (bytesP y).length < (bytesP x).length then ((bytesP y).length : Int) else ((bytesP x).length : Int)) = (nn : Int) := by rw [hnn]; split <;> omega
  simp only [e0]
  refine cw_drawl T hm xm [4] (.soft 0 false <| .soft 1 false <| .soft 2 true <| .soft 3 true <| .soft 4 false <| .soft 5 true <| .soft 6 false <| .soft 7 false <| .soft 8 false <| .soft 9 false <| .soft 10 false <| .soft 11 true <| .soft 12 false <| .soft 13 true <| .soft 14 false <| .soft 15 false <| .soft 16 false <| .soft 17 false <| .soft 18 false <| .soft 19 true <| .soft 20 true <| .soft 21 false <| .soft 22 false <| .soft 23 true <| .soft 24 true <| .soft 25 false <| .soft 26 true <| .soft 27 true <| .soft 28 false <| .soft 29 false <| .soft 30 false <| .soft 31 false <| .stop) (by kernel_rfl) fun K hK => ?_
  have pf := prefix_free ⟨hf, hn⟩ ⟨hf', hn'⟩
  have l1 := bytes_size x
  have kx := fits_kind hf
  obtain ⟨pt, hix, hld⟩ := BS.at (hb []) (ty := tyOf Try.prog Try.eqs) (e := 5) Try.ty5 (j := 0) (by rw [hr1]; simp) .i64
  have hld1 := fun X => hld X
  have ek : (((ix (bytesP x) 0).toNat : Nat) : Int) = x.kind := by rw [hr1]; simp [ix, b8]; omega
  have ez : IntKind.i64.wrap x.kind = x.kind := w64 (by omega) (by omega)
  have eb : x.kind ≤ 9223372036854775807 := by omega
  simp [ek] at hix hld1
  have c0 : x.cells[0]? = some (.int .i64 x.kind) := rfl
  have esz : ([Value.int IntKind.i64 0, Value.int IntKind.i64 2, Value.int IntKind.i64 2, Value.int IntKind.i64 5, Value.int IntKind.i64 5, Value.int IntKind.i64 6, Value.int IntKind.i64 6, Value.int IntKind.i64 7, Value.int IntKind.i64 5, Value.int IntKind.i64 5, Value.int IntKind.i64 8, Value.int IntKind.i64 16] : List Value)[x.kind.toNat]? = some (.int .i64 (bytesP x).length) := by
    rw [l1]
    rcases (show x.kind = 1 ∨ x.kind = 2 ∨ x.kind = 3 ∨ x.kind = 4 ∨ x.kind = 5 ∨ x.kind = 6 ∨ x.kind = 7 ∨ x.kind = 8 ∨ x.kind = 9 ∨ x.kind = 10 ∨ x.kind = 11 by omega) with e | e | e | e | e | e | e | e | e | e | e <;> rw [e] <;> rfl
  rw [← hnn] at pf
  have hn1 : nn ≤ (bytesP x).length := by omega
  have hn2 : nn ≤ (bytesP y).length := by omega
  obtain ⟨a3, c3, hc3, hb3⟩ := (hb []).cut (ty := tyOf Try.prog Try.eqs) (e := 5) (l := 0) (u := nn) Try.ty5 rfl (by omega) hn1 (lo := none) (hi := some (.int .i64 nn)) (.inl ⟨rfl, rfl⟩) (.inr ⟨.i64, rfl⟩)
  obtain ⟨a4, c4, hc4, hb4⟩ := (hb2 []).cut (ty := tyOf Try.prog Try.eqs) (e := 5) (l := 0) (u := nn) Try.ty5 rfl (by omega) hn2 (lo := none) (hi := some (.int .i64 nn)) (.inl ⟨rfl, rfl⟩) (.inr ⟨.i64, rfl⟩)
  have hc3' := fun X => hc3 _ (fun _ _ q => hget_old q X)
  have hc4' := fun X => hc4 _ (fun _ _ q => hget_old q X)
  have hr3 := fun X => (hb3.mono X).row.1
  have hr4 := fun X => (hb4.mono X).row.1
  simp at hc3' hc4' hr3 hr4
  simp [hix, hld1, c0, eb, esz, hc3', hc4', hr3, hr4, Mg.take12, flatEq_Mz]
  have ev : ((List.take nn (bytesP x) == List.take nn (bytesP y)) == decide (x = y)) = true := by
    by_cases hxy : x = y
    · rw [beq_iff_eq, decide_eq_true hxy]; exact beq_iff_eq.2 (pf.2 hxy)
    · rw [beq_iff_eq, decide_eq_false hxy]; exact beq_eq_false_iff_ne.2 fun h => hxy (pf.1 h)
  refine ⟨by omega, ⟨by omega, by omega⟩, hK _ ?_⟩
  simp [ev]
  exact Ans.refl (hR _ _ rfl)
end Go.Proofs
