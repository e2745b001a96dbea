/-
  Walks by Sx; no condition beyond those that stand in each statement.
-/
import Derived.Test.YtfjdbhgnnpmceaaSxuMsgE
namespace Go.Proofs
open Go Go.Sx
set_option maxRecDepth 100000
attribute [local simp] xm
variable (T : TyOk Try.prog (tyOf Try.prog Try.eqs)) (hm : Try.prog.follows .mixedOrders = true)
/-- What stands for putting. -/
def PutR (H : Heap) (o : Option (List UInt8)) (r : Value) (h : Heap) : Prop :=
  ∃ L, h = H ++ L ∧ match o with
    | some o => ∃ p, hget L p = some (grown (u8s o) 1) ∧ r = .tuple #[.slice (some ⟨H.length + p, 0, none⟩) o.length OPEN, .int .i64 0]
    | none => r = .tuple #[.slice none 0 0, .int .i64 1]
theorem cellsAt_lt {h : Heap} {i : Nat} {cs : List Value} (q : cellsAt h i = some cs) : i < h.length := by
  rw [cellsAt_eq] at q
  cases hb : hget h i with
  | none => rw [hb] at q; cases q
  | some b => exact hget_lt hb
theorem wrM_kind : ∀ (fs : List Fs) (m : Mg) (n : Int) (o : List UInt8), (∀ f ∈ fs, f.now = true ∨ f.k ≠ 0) → ∀ o' m' n', wrM fs m n o = some (o', m', n') → m'.kind = m.kind
  | [], m, n, o, _, o', m', n', h => by simp only [wrM, Option.some.injEq, Prod.mk.injEq] at h; rw [h.2.1]
  | f :: r, m, n, o, g, o', m', n', h => by
    simp only [wrM] at h
    split at h
    · cases h
    · rw [wrM_kind r _ _ _ (fun x hx => g x (by simp [hx])) _ _ _ h]
      unfold Fs.setM
      split
      · rfl
      · rcases g f (by simp) with q | q
        · contradiction
        · unfold Mg.put; split <;> first | rfl | exact absurd ‹_› q
theorem msgFs_kind {k : Int} {fs : List Fs} (h : msgFs k = some fs) : ∀ f ∈ fs, f.now = true ∨ f.k ≠ 0 := by
  rcases msgFs_cases h with ⟨rfl, rfl⟩ | ⟨rfl, rfl⟩ | ⟨rfl, rfl⟩ | ⟨rfl, rfl⟩ | ⟨rfl, rfl⟩ | ⟨rfl, rfl⟩ | ⟨rfl, rfl⟩ | ⟨rfl, rfl⟩ | ⟨rfl, rfl⟩ | ⟨rfl, rfl⟩ | ⟨rfl, rfl⟩ <;> simp [sF, eF, xF]
theorem flatEq_of (m : Mg) (k : Int) : flatEq [Value.int IntKind.i64 0, Value.int IntKind.i64 0, Value.int IntKind.i64 0, Value.int IntKind.i64 0, Value.int IntKind.i64 0, Value.int IntKind.i64 0, Value.int IntKind.i64 0, Value.bool false, Value.int IntKind.i64 0, Value.int IntKind.i64 0, Value.int IntKind.i64 0, Value.int IntKind.i64 0] m.cells [Value.int IntKind.i64 k, Value.int IntKind.i64 0, Value.int IntKind.i64 0, Value.int IntKind.i64 0, Value.int IntKind.i64 0, Value.int IntKind.i64 0, Value.int IntKind.i64 0, Value.bool false, Value.int IntKind.i64 0, Value.int IntKind.i64 0, Value.int IntKind.i64 0, Value.int IntKind.i64 0] = some (decide (m = Mg.of k)) := flatEq_Mg m (Mg.of k)
include T hm
set_option maxHeartbeats 4000000 in
theorem msgPut_fn (m : Mg) (H : Heap) : Sx.Fn Try.prog 15 [.agg m.cells.toArray] H fun r h => PutR H (putP m) r h := by
  refine fn_w T xm Try.func15 rfl (by kernel_rfl) Try.results15 Try.ntmps15 (by simp) fun R hR => ?_
  simp
  have c7 : m.cells[7]? = some (.bool m.now) := rfl
  have c0 : ∀ m : Mg, m.cells[0]? = some (.int .i64 m.kind) := fun _ => rfl
  have s7 : m.cells.set 7 (.bool false) = ({ m with now := false } : Mg).cells := rfl
  simp [c7]
  obtain ⟨m0, hm0⟩ : ∃ m0 : Mg, m0 = { m with now := false } := ⟨_, rfl⟩
  have k0 : m0.kind = m.kind := by rw [hm0]
  rw [← hm0] at s7
  have hb : UInt8.ofNat m.kind.toNat = UInt8.ofNat m.kind.toNat := rfl
  cases hnw : m.now <;> simp [s7]
  all_goals
    refine CallK.of (fields_fn T hm m.kind m0.cells H.length (H.length + 1) 0 _ (by simp) (by rw [← k0]; rfl) (by simp)) ?_
    rintro _ _ ⟨L, rfl, hr⟩
    cases hf : msgFs m.kind with
    | none =>
      rw [hf] at hr
      subst hr
      simp
      exact Ans.refl (hR _ _ ⟨_, rfl, by simp [putP, hf]⟩)
    | some fs =>
      obtain ⟨hgood, hfl, hk1, hk2⟩ := msgFs_good hf
      rw [hf] at hr
      obtain ⟨p, c, cs, rfl, hp, hFR⟩ := hr
      simp at hFR
      obtain ⟨kb, hkb⟩ : ∃ kb : UInt8, kb = UInt8.ofNat m.kind.toNat := ⟨_, rfl⟩
      have hw : IntKind.u8.wrap m.kind = (kb.toNat : Int) := by
        simp [hkb, IntKind.wrap, IntKind.signed, IntKind.bits]; omega
      simp [c0, k0, zerosN_4, zerosN_0, hw]
      have hpl := cellsAt_lt hp
      refine CallK.of (write_fn T hm fs m0.cells [.int .i64 _] [kb] rfl _ (H.length + (L.length + 1 + 1)) H.length (H.length + 1) (H.length + 2 + p) c 0 0 0 cs (by omega) (by omega) (by omega) (by omega) (by omega) (by omega) (by simp) (by simp; rfl) (by simp [u8s]) ?_ ?_ ?_ ?_ hfl) ?_
      · rw [show H.length + 2 + p = H.length + (p + 1 + 1) by omega]
        simp
        rw [hget_append hpl, ← cellsAt_eq]
        exact hp
      · have h2 := hFR.mono (fun _ _ q => hget_old q [some (Blk.cells [Value.int IntKind.u8 kb.toNat] true 0)])
        simpa using h2
      · rintro bx ⟨n, u, hb⟩ rfl
        simp at hb
      · intro f hfm
        exact (good_rd (hgood f hfm) m0 _).2.2.2
      · rintro r h ⟨A', B', M, rfl, hr⟩
        rw [wrV_M _ _ _ _ hgood] at hr
        have hpp : putP m = (wrM fs m0 (if m.now = true then 1 else 0) [kb]).bind fun p => if p.2.2 = 0 ∧ p.2.1 = Mg.of m.kind then some p.1 else none := by
          rw [hm0, hkb]; simp only [putP, hf]; cases wrM fs _ _ _ <;> rfl
        rw [hnw] at hpp
        simp at hpp
        rw [hpp] at hR
        clear hpp
        have hkd := wrM_kind fs m0 (if m.now = true then 1 else 0) [kb] (msgFs_kind hf)
        rw [hnw] at hkd
        simp at hkd
        generalize wrM fs m0 _ [kb] = o at hr hR hkd
        cases o with
        | none =>
          simp at hr
          subst hr
          simp
          exact Ans.refl (hR _ _ ⟨_, rfl, rfl⟩)
        | some o =>
          obtain ⟨o, m2, n2⟩ := o
          simp at hr
          obtain ⟨rfl, rfl, q, hq, rfl⟩ := hr
          have hk2 : m2.kind = m.kind := by rw [hkd _ _ _ rfl, k0]
          have e0 : List.take 12 m2.cells = m2.cells := rfl
          simp [c0, hk2, e0, flatEq_of]
          refine ⟨fun h1 => ⟨fun h2 => ?_, fun h2 => ?_⟩, fun h1 => ?_⟩
          · exact Ans.refl (hR _ _ ⟨_, rfl, by simp [h1, h2]⟩)
          · refine Ans.refl (hR _ _ ⟨_, rfl, ?_⟩)
            simp [h1, h2]
            exact ⟨L.length + (q + 1) + 1 + 1, by simpa using hq, by omega⟩
          · exact Ans.refl (hR _ _ ⟨_, rfl, by simp [h1]⟩)
  done
end Go.Proofs
