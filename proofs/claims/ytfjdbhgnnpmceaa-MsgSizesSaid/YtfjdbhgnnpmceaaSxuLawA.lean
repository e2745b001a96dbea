/-
  Walks by Sx; no condition beyond those that stand in each statement.
-/
import Derived.Test.YtfjdbhgnnpmceaaSxuRplC
namespace Go.Proofs
open Go Go.Sx
set_option maxRecDepth 100000
attribute [local simp] xm
theorem putR_bs {H h : Heap} {o : List UInt8} {r : Value} (q : PutR H (some o) r h) : ∃ L a c, h = H ++ L ∧ r = .tuple #[.slice a o.length c, .int .i64 0] ∧ ∀ X, BS (H ++ L ++ X) (.slice a o.length c) o := by
  obtain ⟨L, rfl, p, hp, rfl⟩ := q
  exact ⟨L, _, _, rfl, rfl, fun X => (BS.grown (by rw [hget_newk]; exact hp) rfl).mono X⟩
theorem putR_no {H h : Heap} {r : Value} (q : PutR H none r h) : ∃ L, h = H ++ L ∧ r = .tuple #[.slice none 0 0, .int .i64 1] := q
theorem takeR_yes {H h : Heap} {m : Mg} {r : Value} (q : TakeR H (some m) r h) : ∃ L, h = H ++ L ∧ r = .tuple #[.agg m.cells.toArray, .int .i64 0] := q
theorem takeR_no {H h : Heap} {r : Value} (q : TakeR H none r h) : ∃ L, h = H ++ L ∧ r = .tuple #[.agg Mg.zero.cells.toArray, .int .i64 13] := q
variable (T : TyOk Try.prog (tyOf Try.prog Try.eqs)) (hm : Try.prog.follows .mixedOrders = true)
include T hm
theorem msgPutS_fn (m : Mg) (o : List UInt8) (h : putP m = some o) (H : Heap) : Sx.Fn Try.prog 15 [.agg m.cells.toArray] H fun r h => ∃ L a c, h = H ++ L ∧ r = .tuple #[.slice a o.length c, .int .i64 0] ∧ ∀ X, BS (H ++ L ++ X) (.slice a o.length c) o :=
  (msgPut_fn T hm m H).mono fun r h q => by rw [‹putP m = some o›] at q; exact putR_bs q
theorem msgPutN_fn (m : Mg) (h : putP m = none) (H : Heap) : Sx.Fn Try.prog 15 [.agg m.cells.toArray] H fun r h => ∃ L, h = H ++ L ∧ r = .tuple #[.slice none 0 0, .int .i64 1] :=
  (msgPut_fn T hm m H).mono fun r h q => by rw [‹putP m = none›] at q; exact q
set_option maxHeartbeats 1000000 in
theorem shown8_fn (H : Heap) : Sx.Fn Try.prog 13 [] H fun r h => r = .bool true ∧ ∃ L, h = H ++ L := by
  refine fn_w T xm Try.func13 rfl (by kernel_rfl) Try.results13 Try.ntmps13 (by simp) fun R hR => ?_
  simp
  refine CallK.of (msgPutS_fn T hm ⟨10, 5, 0, 0, 258, 3, 0, false, 0, 0, 0, 0⟩ [10, 0, 0, 0, 5, 1, 2, 3] (by decide +kernel) _) ?_
  rintro _ _ ⟨L, a, c, rfl, rfl, hb⟩
  simp
  refine CallK.of (putReply_fn T hm ⟨133, 0, 0, 0, 258, 0, 0, 0, 0, 0, 0, 0, 0, 0⟩ _) ?_
  rintro _ _ hr
  rw [show putR ⟨133, 0, 0, 0, 258, 0, 0, 0, 0, 0, 0, 0, 0, 0⟩ = some [133, 1, 2] by decide +kernel] at hr
  obtain ⟨L2, a2, c2, rfl, rfl, hb2⟩ := putR_bs hr
  have e1 := (hb L2).row.1
  have e2 := (hb2 []).row.1
  simp only [List.append_assoc, List.append_nil] at e1 e2
  simp at e1 e2
  simp [e1, e2]
  exact Ans.refl (hR _ _ ⟨rfl, _, rfl⟩)
omit T hm in
theorem setZ (m : Mg) : setL [.int .i64 0, .int .i64 0, .int .i64 0, .int .i64 0, .int .i64 0, .int .i64 0, .int .i64 0, .bool false, .int .i64 0, .int .i64 0, .int .i64 0, .int .i64 0] 0 m.cells = m.cells := rfl
omit T hm in
theorem nofit {m : Mg} (h : ¬ fitsP m) : putP m = none := by rw [putP_eq]; exact if_neg fun q => h q.1
omit hm in
theorem fitS_fn (m : Mg) (H : Heap) : Sx.Fn Try.prog 14 [.agg m.cells.toArray] H fun r h => ∃ (x : Mg) (o : List UInt8) (L : Heap), r = .agg x.cells.toArray ∧ putP x = some o ∧ fitsP x ∧ namedP x = x ∧ o = bytesP x ∧ h = H ++ L :=
  (fit_fn T m H).mono fun r h ⟨x, h1, h2, h3, L, h4⟩ => ⟨x, bytesP x, L, h1, by rw [putP_eq]; exact rPutP_some.2 ⟨h2, h3, rfl⟩, h2, h3, rfl, h4⟩
set_option maxHeartbeats 4000000 in
theorem msgFields_fn (m : Mg) (w : UInt8) (H : Heap) : Sx.Fn Try.prog 3 [.agg m.cells.toArray, .int .u8 w.toNat] H fun r h => r = .bool true := by
  refine fn_w T xm Try.func3 rfl (by kernel_rfl) Try.results3 Try.ntmps3 (by simp) fun R hR => ?_
  simp
  refine CallK.of (shown8_fn T hm _) ?_
  rintro _ _ ⟨rfl, L, rfl⟩
  simp [Mg.take12]
  refine CallK.of (fitS_fn T _ _) ?_
  rintro _ _ ⟨x, o, L2, rfl, ho, hf, hn, rfl, rfl⟩
  have o1 := Mg.oneM x
  have o2 := Mg.oneV x
  simp only [Mg.cells_length] at o2
  have pc : ∀ (y : Mg) (k : Nat) (v : Int), k < 12 → k ≠ 7 → y.cells.set k (.int .i64 v) = (y.put k v).cells := fun y k v h1 h2 => Mg.put_cells y h1 h2 v
  simp [Mg.take12, setZ, o1, o2, pc]
  have n1 : putP (x.put 1 4294967296) = none := nofit fun h => by have := h.2.2.2.2.2.1.2; simp [Mg.put] at this
  have n2 : putP (x.put 2 4) = none := nofit fun h => by have := h.2.2.2.2.2.2.2.1.2; simp [Mg.put] at this
  have n3 : putP (x.put 3 5) = none := nofit fun h => by have := h.2.2.2.2.2.2.2.2.1.2; simp [Mg.put] at this
  have n4 : putP (x.put 4 65536) = none := nofit fun h => by have := h.2.2.2.2.2.2.1.2; simp [Mg.put] at this
  have n5 : putP (x.put 5 5) = none := nofit fun h => by have := h.2.2.2.2.2.2.2.2.2.1.2; simp [Mg.put] at this
  have n6 : putP (x.put 6 4) = none := nofit fun h => by have := h.2.2.2.2.2.2.2.2.2.2.2; simp [Mg.put] at this
  have n8 : ∀ j, j < 4 → putP (x.put (8 + j) 32768) = none := fun j hj => nofit fun h => by
    obtain ⟨a0, a1, a2, a3, _⟩ := h
    match j, hj with
    | 0, _ => have := a0.2; simp [Mg.put] at this
    | 1, _ => have := a1.2; simp [Mg.put] at this
    | 2, _ => have := a2.2; simp [Mg.put] at this
    | 3, _ => have := a3.2; simp [Mg.put] at this
  have c0 : x.cells[0]? = some (.int .i64 x.kind) := rfl
  have z1 : (x.kind = 1 ∨ x.kind = 2) → putP (x.put 1 1) = none := fun h => by
    rw [putP_eq]; refine if_neg fun q => ?_
    have := congrArg Mg.seq q.2
    simp [namedP, Mg.put, h] at this
  have z2 : ¬ (x.kind = 1 ∨ x.kind = 2) → putP (x.put 2 1) = none := fun h => by
    rw [putP_eq]; refine if_neg fun q => ?_
    have := congrArg Mg.role q.2
    simp only [namedP, Mg.put, h, if_false] at this
    repeat' split at this
    all_goals simp at this
  refine ⟨o1, fun d0 => ?_, fun e0 => ⟨fun d1 => ?_, fun e1 => ⟨fun d2 => ?_, fun e2 => ⟨fun d3 => ?_, fun e3 => ⟨fun d4 => ?_, fun e4 => ⟨fun d5 => ?_, fun e5 => ?_⟩⟩⟩⟩⟩⟩
  · refine CallK.of (msgPutN_fn T hm _ n1 _) ?_
    rintro _ _ ⟨L3, rfl, rfl⟩
    simp [Mg.take12, setZ, o1, o2, c0, pc]
    refine ⟨o1, fun a => ⟨fun b => ?_, fun b => ?_⟩, fun a => ?_⟩
    · refine CallK.of (msgPutN_fn T hm _ (z1 (.inr b)) _) ?_
      rintro _ _ ⟨L4, rfl, rfl⟩
      simp
      exact Ans.refl (hR _ _ rfl)
    · refine CallK.of (msgPutN_fn T hm _ (z2 (by omega)) _) ?_
      rintro _ _ ⟨L4, rfl, rfl⟩
      simp
      exact Ans.refl (hR _ _ rfl)
    · refine CallK.of (msgPutN_fn T hm _ (z1 (.inl a)) _) ?_
      rintro _ _ ⟨L4, rfl, rfl⟩
      simp
      exact Ans.refl (hR _ _ rfl)
  · refine CallK.of (msgPutN_fn T hm _ n2 _) ?_
    rintro _ _ ⟨L3, rfl, rfl⟩
    simp [Mg.take12, setZ, o1, o2, c0, pc]
    refine ⟨o1, fun a => ⟨fun b => ?_, fun b => ?_⟩, fun a => ?_⟩
    · refine CallK.of (msgPutN_fn T hm _ (z1 (.inr b)) _) ?_
      rintro _ _ ⟨L4, rfl, rfl⟩
      simp
      exact Ans.refl (hR _ _ rfl)
    · refine CallK.of (msgPutN_fn T hm _ (z2 (by omega)) _) ?_
      rintro _ _ ⟨L4, rfl, rfl⟩
      simp
      exact Ans.refl (hR _ _ rfl)
    · refine CallK.of (msgPutN_fn T hm _ (z1 (.inl a)) _) ?_
      rintro _ _ ⟨L4, rfl, rfl⟩
      simp
      exact Ans.refl (hR _ _ rfl)
  · refine CallK.of (msgPutN_fn T hm _ n3 _) ?_
    rintro _ _ ⟨L3, rfl, rfl⟩
    simp [Mg.take12, setZ, o1, o2, c0, pc]
    refine ⟨o1, fun a => ⟨fun b => ?_, fun b => ?_⟩, fun a => ?_⟩
    · refine CallK.of (msgPutN_fn T hm _ (z1 (.inr b)) _) ?_
      rintro _ _ ⟨L4, rfl, rfl⟩
      simp
      exact Ans.refl (hR _ _ rfl)
    · refine CallK.of (msgPutN_fn T hm _ (z2 (by omega)) _) ?_
      rintro _ _ ⟨L4, rfl, rfl⟩
      simp
      exact Ans.refl (hR _ _ rfl)
    · refine CallK.of (msgPutN_fn T hm _ (z1 (.inl a)) _) ?_
      rintro _ _ ⟨L4, rfl, rfl⟩
      simp
      exact Ans.refl (hR _ _ rfl)
  · refine CallK.of (msgPutN_fn T hm _ n4 _) ?_
    rintro _ _ ⟨L3, rfl, rfl⟩
    simp [Mg.take12, setZ, o1, o2, c0, pc]
    refine ⟨o1, fun a => ⟨fun b => ?_, fun b => ?_⟩, fun a => ?_⟩
    · refine CallK.of (msgPutN_fn T hm _ (z1 (.inr b)) _) ?_
      rintro _ _ ⟨L4, rfl, rfl⟩
      simp
      exact Ans.refl (hR _ _ rfl)
    · refine CallK.of (msgPutN_fn T hm _ (z2 (by omega)) _) ?_
      rintro _ _ ⟨L4, rfl, rfl⟩
      simp
      exact Ans.refl (hR _ _ rfl)
    · refine CallK.of (msgPutN_fn T hm _ (z1 (.inl a)) _) ?_
      rintro _ _ ⟨L4, rfl, rfl⟩
      simp
      exact Ans.refl (hR _ _ rfl)
  · refine CallK.of (msgPutN_fn T hm _ n5 _) ?_
    rintro _ _ ⟨L3, rfl, rfl⟩
    simp [Mg.take12, setZ, o1, o2, c0, pc]
    refine ⟨o1, fun a => ⟨fun b => ?_, fun b => ?_⟩, fun a => ?_⟩
    · refine CallK.of (msgPutN_fn T hm _ (z1 (.inr b)) _) ?_
      rintro _ _ ⟨L4, rfl, rfl⟩
      simp
      exact Ans.refl (hR _ _ rfl)
    · refine CallK.of (msgPutN_fn T hm _ (z2 (by omega)) _) ?_
      rintro _ _ ⟨L4, rfl, rfl⟩
      simp
      exact Ans.refl (hR _ _ rfl)
    · refine CallK.of (msgPutN_fn T hm _ (z1 (.inl a)) _) ?_
      rintro _ _ ⟨L4, rfl, rfl⟩
      simp
      exact Ans.refl (hR _ _ rfl)
  · refine CallK.of (msgPutN_fn T hm _ n6 _) ?_
    rintro _ _ ⟨L3, rfl, rfl⟩
    simp [Mg.take12, setZ, o1, o2, c0, pc]
    refine ⟨o1, fun a => ⟨fun b => ?_, fun b => ?_⟩, fun a => ?_⟩
    · refine CallK.of (msgPutN_fn T hm _ (z1 (.inr b)) _) ?_
      rintro _ _ ⟨L4, rfl, rfl⟩
      simp
      exact Ans.refl (hR _ _ rfl)
    · refine CallK.of (msgPutN_fn T hm _ (z2 (by omega)) _) ?_
      rintro _ _ ⟨L4, rfl, rfl⟩
      simp
      exact Ans.refl (hR _ _ rfl)
    · refine CallK.of (msgPutN_fn T hm _ (z1 (.inl a)) _) ?_
      rintro _ _ ⟨L4, rfl, rfl⟩
      simp
      exact Ans.refl (hR _ _ rfl)
  · have ej : ((w.toNat : Int).tmod 4).toNat = w.toNat % 4 := by rw [Int.tmod_eq_emod_of_nonneg (by omega)]; omega
    have ek : (w.toNat : Int).tmod 4 = (w.toNat : Int) % 4 := Int.tmod_eq_emod_of_nonneg (by omega)
    refine ⟨⟨by omega, by omega⟩, by omega, ?_⟩
    rw [ej, pc x (8 + w.toNat % 4) 32768 (by omega) (by omega), Mg.take12]
    have n9 := n8 (w.toNat % 4) (by omega)
    refine CallK.of (msgPutN_fn T hm _ n9 _) ?_
    rintro _ _ ⟨L3, rfl, rfl⟩
    simp [Mg.take12, setZ, o1, o2, c0, pc]
    refine ⟨o1, fun a => ⟨fun b => ?_, fun b => ?_⟩, fun a => ?_⟩
    · refine CallK.of (msgPutN_fn T hm _ (z1 (.inr b)) _) ?_
      rintro _ _ ⟨L4, rfl, rfl⟩
      simp
      exact Ans.refl (hR _ _ rfl)
    · refine CallK.of (msgPutN_fn T hm _ (z2 (by omega)) _) ?_
      rintro _ _ ⟨L4, rfl, rfl⟩
      simp
      exact Ans.refl (hR _ _ rfl)
    · refine CallK.of (msgPutN_fn T hm _ (z1 (.inl a)) _) ?_
      rintro _ _ ⟨L4, rfl, rfl⟩
      simp
      exact Ans.refl (hR _ _ rfl)
end Go.Proofs
