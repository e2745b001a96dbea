/-
  Walks by Sx; no condition beyond those that stand in each statement.
-/
import Derived.Test.YtfjdbhgnnpmceaaSxuMsgF
namespace Go.Proofs
open Go Go.Sx
set_option maxRecDepth 100000
attribute [local simp] xm
variable (T : TyOk Try.prog (tyOf Try.prog Try.eqs)) (hm : Try.prog.follows .mixedOrders = true)
/-- What stands for taking. -/
def TakeR (H : Heap) (o : Option Mg) (r : Value) (h : Heap) : Prop :=
  ∃ L, h = H ++ L ∧ match o with
    | some m => r = .tuple #[.agg m.cells.toArray, .int .i64 0]
    | none => r = .tuple #[.agg Mg.zero.cells.toArray, .int .i64 13]
theorem Mg.oneV (m : Mg) (j : Nat) (h : j < m.cells.length) : one1 m.cells[j] = true := by
  have : ∀ x ∈ m.cells, one1 x = true := by simp [Mg.cells, one1]
  exact this _ (List.getElem_mem h)
theorem Mg.oneM (m : Mg) : ∀ x ∈ m.cells, one1 x = true := by simp [Mg.cells, one1]
theorem Mg.take12 (m : Mg) : List.take 12 m.cells = m.cells := rfl
theorem BS.at {ty : TypeId → Option TD} {H : Heap} {a : Option Addr} {n c e : Nat} {b : List UInt8} {z : List Value} {f : Bool} (h : BS H (.slice a n c) b) (he : ty e = some ⟨.int .u8, 1, 1, z, f⟩) {j : Nat} (hj : j < n) (k : IntKind) :
    ∃ p, idxA ty (.slice e) (.slice a n c) (.int k j) = some p ∧ ∀ L z f, loadC ⟨.int .u8, 1, 1, z, f⟩ (H ++ L) p = some (.int .u8 (ix b j).toNat) := by
  obtain ⟨_, rfl⟩ := h.row
  rcases h.view with ⟨_, q⟩ | ⟨i, k, c', cs, q, hv, hg⟩
  · subst q; simp at hj
  simp only [Value.slice.injEq] at q
  obtain ⟨rfl, _, rfl⟩ := q
  exact ⟨.pointer (some ⟨i, k + j, none⟩), by simp [he, hj], fun L z f => by simp [hv, hg j hj]⟩
include T hm
set_option maxHeartbeats 4000000 in
theorem msgTake_fn (a : Option Addr) (n c : Nat) (b : List UInt8) (H : Heap) (hb : BS H (.slice a n c) b) (hn : b.length < 9223372036854775807) : Sx.Fn Try.prog 27 [.slice a n c] H fun r h => TakeR H (takeP b) r h := by
  refine fn_w T xm Try.func27 rfl (by kernel_rfl) Try.results27 Try.ntmps27 (by simp) fun R hR => ?_
  obtain ⟨hrow, rfl⟩ := hb.row
  simp
  cases b with
  | nil =>
    simp
    exact Ans.refl (hR _ _ ⟨_, rfl, rfl⟩)
  | cons kb r =>
    obtain ⟨pt, hix, hld⟩ := BS.at hb (ty := tyOf Try.prog Try.eqs) (e := 5) Try.ty5 (j := 0) (by simp) .i64
    simp [ix] at hix hld
    have hkk : kb.toNat < 256 := kb.toNat_lt
    have hz : IntKind.i64.wrap (kb.toNat : Int) = kb.toNat := by simp [IntKind.wrap, IntKind.signed, IntKind.bits]; omega
    obtain ⟨a1, c1, hcut, hbs⟩ := hb.cut (ty := tyOf Try.prog Try.eqs) (e := 5) (l := 1) (u := r.length + 1) Try.ty5 rfl (by omega) (by simp) (lo := some (.int .i64 1)) (hi := none) (.inr ⟨.i64, rfl⟩) (.inl ⟨rfl, rfl⟩)
    simp only [List.length_cons, Nat.add_sub_cancel] at hcut
    simp [hix, hld]
    refine ⟨by omega, fun j hj => (Mg.of (kb.toNat : Int)).oneV j hj, ?_⟩
    have htp : takeP (kb :: r) = (msgFs (kb.toNat : Int)).bind fun fs => (rdM fs (Mg.of (kb.toNat : Int)) 0 r).map fun p => { p.1 with now := p.2 == 1 } := by
      simp only [takeP]
      cases msgFs (kb.toNat : Int) with
      | none => rfl
      | some fs => simp only [Option.bind_some]; cases rdM fs _ 0 r <;> rfl
    rw [htp] at hR
    refine CallK.of (fields_fn T hm kb.toNat (Mg.of kb.toNat).cells (H.length + 1) (H.length + 2) 0 _ (by simp; rfl) rfl (by simp)) ?_
    rintro _ _ ⟨L, rfl, hr⟩
    cases hf : msgFs (kb.toNat : Int) with
    | none =>
      rw [hf] at hr hR
      subst hr
      simp
      exact Ans.refl (hR _ _ ⟨_, rfl, rfl⟩)
    | some fs =>
      obtain ⟨hgood, hfl, hk1, hk2⟩ := msgFs_good hf
      rw [hf] at hr hR
      obtain ⟨p, c2, cs2, rfl, hp, hFR⟩ := hr
      have hpl := cellsAt_lt hp
      simp at hFR
      simp [hcut _ (fun _ _ q => hget_old q _)]
      refine CallK.of (read_fn T hm fs (Mg.of kb.toNat).cells [.int .i64 0] r _ _ H (H.length + 1) (H.length + 2) (H.length + 3 + p) c2 0 0 cs2 (by omega) (by omega) (by omega) ?_ ?_ ?_ ?_ ?_ hfl (by simpa using hbs) ?_ ?_) ?_
      · simp; rfl
      · simp
      · rw [show H.length + 3 + p = H.length + (p + 1 + 1 + 1) by omega]
        simp
        rw [← cellsAt_eq]
        exact hp
      · exact hFR
      · intro f hfm
        exact (good_rd (hgood f hfm) _ _).2.2.2
      · intro A B M j b hj
        simp
        exact hget_old hj _
      · simp at hn; omega
      · rintro v h ⟨A', B', M, rfl, hr⟩
        rw [rdV_M _ _ _ _ hgood] at hr
        simp only [Option.bind_some] at hR
        generalize rdM fs _ 0 r = o at hr hR
        cases o with
        | none =>
          simp at hr
          subst hr
          simp
          exact Ans.refl (hR _ _ ⟨_, rfl, rfl⟩)
        | some o =>
          obtain ⟨m2, n2⟩ := o
          simp at hr
          obtain ⟨rfl, rfl, rfl⟩ := hr
          have e7 : m2.cells.set 7 (.bool (decide (n2 = 1))) = ({ m2 with now := decide (n2 = 1) } : Mg).cells := rfl
          have ez : ∀ m : Mg, setL [.int .i64 0, .int .i64 0, .int .i64 0, .int .i64 0, .int .i64 0, .int .i64 0, .int .i64 0, .bool false, .int .i64 0, .int .i64 0, .int .i64 0, .int .i64 0] 0 m.cells = m.cells := fun _ => rfl
          simp [e7, ez, Mg.take12]
          exact ⟨Mg.oneM _, Ans.refl (hR _ _ ⟨_, rfl, rfl⟩)⟩
end Go.Proofs
