/-
  Walks by Sx; no condition beyond those that stand in each statement.
-/
import Derived.Test.YtfjdbhgnnpmceaaSxuRefA
namespace Go.Proofs
open Go Go.Sx
set_option maxRecDepth 100000
attribute [local simp] xm
/-- With just what its kind names. -/
def namedP (m : Mg) : Mg :=
  if m.kind = 1 ∨ m.kind = 2 then ⟨m.kind, 0, m.role, 0, 0, 0, 0, false, 0, 0, 0, 0⟩
  else if m.kind = 5 then ⟨m.kind, m.seq, 0, 0, 0, 0, 0, m.now, 0, 0, 0, 0⟩
  else if m.kind = 6 then ⟨m.kind, m.seq, 0, m.to, 0, 0, 0, false, 0, 0, 0, 0⟩
  else if m.kind = 7 then ⟨m.kind, m.seq, 0, 0, m.epoch, 0, 0, false, 0, 0, 0, 0⟩
  else if m.kind = 10 then ⟨m.kind, m.seq, 0, 0, m.epoch, m.mode, 0, false, 0, 0, 0, 0⟩
  else if m.kind = 11 then ⟨m.kind, m.seq, 0, 0, m.epoch, 0, m.cls, false, m.x0, m.x1, m.x2, m.x3⟩
  else ⟨m.kind, m.seq, 0, 0, 0, 0, 0, false, 0, 0, 0, 0⟩
def inP (n lo hi : Int) : Prop := lo ≤ n ∧ n ≤ hi
instance (n lo hi : Int) : Decidable (inP n lo hi) := inferInstanceAs (Decidable (_ ∧ _))
/-- Within the bounds. -/
def fitsP (m : Mg) : Prop :=
  inP m.x0 (-32768) 32767 ∧ inP m.x1 (-32768) 32767 ∧ inP m.x2 (-32768) 32767 ∧ inP m.x3 (-32768) 32767 ∧ inP m.kind 1 11 ∧ inP m.seq 0 4294967295 ∧ inP m.epoch 0 65535 ∧ inP m.role 0 3 ∧ inP m.to 0 4 ∧ inP m.mode 0 4 ∧ inP m.cls (if m.kind = 11 then 1 else 0) 3
instance (m : Mg) : Decidable (fitsP m) := by unfold fitsP; infer_instance
variable (T : TyOk Try.prog (tyOf Try.prog Try.eqs)) (hm : Try.prog.follows .mixedOrders = true)
include T
theorem inP_fn (n lo hi : Int) (H : Heap) : Sx.Fn Try.prog 55 [.int .i64 n, .int .i64 lo, .int .i64 hi] H fun r h => r = .bool (decide (inP n lo hi)) ∧ h = H := in_fn T n lo hi H
set_option maxHeartbeats 4000000 in
theorem named_fn (m : Mg) (H : Heap) : Sx.Fn Try.prog 38 [.agg m.cells.toArray] H fun r h => r = .agg (namedP m).cells.toArray ∧ ∃ L, h = H ++ L := by
  refine fn_w T xm Try.func38 rfl (by kernel_rfl) Try.results38 Try.ntmps38 (by simp) fun R hR => ?_
  have hR' : ∀ (m2 : Mg) L, m2 = namedP m → R (.agg m2.cells.toArray) (H ++ L) := fun m2 L e => hR _ _ ⟨by rw [e], L, rfl⟩
  clear hR
  obtain ⟨k0, k1, k2, k3, k4, k5, k6, k7, k8, k9, k10, k11⟩ := m
  simp [Mg.cells]
  by_cases c1 : k0 = 1
  · subst c1; simp
    exact Ans.refl (hR' ⟨_, _, _, _, _, _, _, _, _, _, _, _⟩ _ rfl)
  by_cases c2 : k0 = 2
  · subst c2; simp
    exact Ans.refl (hR' ⟨_, _, _, _, _, _, _, _, _, _, _, _⟩ _ rfl)
  by_cases c5 : k0 = 5
  · subst c5; simp
    exact Ans.refl (hR' ⟨_, _, _, _, _, _, _, _, _, _, _, _⟩ _ rfl)
  by_cases c6 : k0 = 6
  · subst c6; simp
    exact Ans.refl (hR' ⟨_, _, _, _, _, _, _, _, _, _, _, _⟩ _ rfl)
  by_cases c7 : k0 = 7
  · subst c7; simp
    exact Ans.refl (hR' ⟨_, _, _, _, _, _, _, _, _, _, _, _⟩ _ rfl)
  by_cases c10 : k0 = 10
  · subst c10; simp
    exact Ans.refl (hR' ⟨_, _, _, _, _, _, _, _, _, _, _, _⟩ _ rfl)
  by_cases c11 : k0 = 11
  · subst c11; simp
    exact Ans.refl (hR' ⟨_, _, _, _, _, _, _, _, _, _, _, _⟩ _ rfl)
  simp [c1, c2, c5, c6, c7, c10, c11]
  exact Ans.refl (hR' ⟨_, _, _, _, _, _, _, _, _, _, _, _⟩ _ (by simp [namedP, c1, c2, c5, c6, c7, c10, c11]))
set_option maxHeartbeats 4000000 in
theorem fits_fn (m : Mg) (H : Heap) : Sx.Fn Try.prog 49 [.agg m.cells.toArray] H fun r h => r = .bool (decide (fitsP m)) ∧ ∃ L, h = H ++ L := by
  refine fn_w T xm Try.func49 rfl (by kernel_rfl) Try.results49 Try.ntmps49 (by simp) fun R hR => ?_
  simp
  refine W_forS (α := Unit) T xm (fun i _ => ⟨[(1, .v (.pointer (some ⟨H.length, 0, none⟩))), (3, .v (.int .i64 i))], H ++ [some (.cells m.cells true 0)]⟩) (fun i _ => ∀ j, j < i → inP (m.get (8 + j)) (-32768) 32767) 4 ⟨(), by simp, by simp, by simp⟩ ?_
  intro i _ hi hΦ K Q hK hQ
  simp
  refine ⟨fun h => ⟨h, ?_⟩, fun h => ?_⟩
  · rw [Mg.get_cells m (k := 8 + i) (by omega) (by omega)]
    simp
    refine CallK.is (inP_fn T _ _ _ _) ?_
    simp
    refine ⟨fun h1 => ?_, fun h1 => ?_⟩
    · have nf : ¬ fitsP m := by
        rintro ⟨f0, f1, f2, f3, _⟩
        apply h1
        have hi4 : i < 4 := by omega
        match i, hi4 with
        | 0, _ => exact f0
        | 1, _ => exact f1
        | 2, _ => exact f2
        | 3, _ => exact f3
      exact hQ _ _ (by simp; exact Ans.refl (hR _ _ ⟨by simp [nf], _, rfl⟩))
    · refine ⟨by omega, hK _ _ () (by omega) ?_ (by simp) (by simp) (by simp)⟩
      intro j hj
      by_cases hji : j = i
      · subst hji; exact h1
      · exact hΦ j (by omega)
  · have h4 : i = 4 := by omega
    subst h4
    refine hQ _ _ ?_
    have x0 : inP m.x0 (-32768) 32767 := hΦ 0 (by omega)
    have x1 : inP m.x1 (-32768) 32767 := hΦ 1 (by omega)
    have x2 : inP m.x2 (-32768) 32767 := hΦ 2 (by omega)
    have x3 : inP m.x3 (-32768) 32767 := hΦ 3 (by omega)
    have c0 : m.cells[0]? = some (.int .i64 m.kind) := rfl
    have c1 : m.cells[1]? = some (.int .i64 m.seq) := rfl
    have c2 : m.cells[2]? = some (.int .i64 m.role) := rfl
    have c3 : m.cells[3]? = some (.int .i64 m.to) := rfl
    have c4 : m.cells[4]? = some (.int .i64 m.epoch) := rfl
    have c5 : m.cells[5]? = some (.int .i64 m.mode) := rfl
    have c6 : m.cells[6]? = some (.int .i64 m.cls) := rfl
    have ef : fitsP m ↔ (inP m.kind 1 11 ∧ inP m.seq 0 4294967295 ∧ inP m.epoch 0 65535 ∧ inP m.role 0 3 ∧ inP m.to 0 4 ∧ inP m.mode 0 4 ∧ inP m.cls (if m.kind = 11 then 1 else 0) 3) := by
      unfold fitsP
      simp only [x0, x1, x2, x3, true_and]
    have hR' : ∀ b, b = decide (inP m.kind 1 11 ∧ inP m.seq 0 4294967295 ∧ inP m.epoch 0 65535 ∧ inP m.role 0 3 ∧ inP m.to 0 4 ∧ inP m.mode 0 4 ∧ inP m.cls (if m.kind = 11 then 1 else 0) 3) → R (.bool b) (H ++ [some (.cells m.cells true 0)]) := fun b e => hR _ _ ⟨by rw [e]; simp only [ef], _, rfl⟩
    clear hR ef
    simp [c0]
    refine ⟨fun hk => ?_, fun hk => ?_⟩
    all_goals
      first | rw [if_pos hk] at hR' | rw [if_neg hk] at hR'
      refine CallK.is (inP_fn T _ _ _ _) ?_
      simp [c1]
      refine ⟨fun p0 => ?_, fun p0 => Ans.refl (hR' _ (by simp [p0]))⟩
      refine CallK.is (inP_fn T _ _ _ _) ?_
      simp [c4]
      refine ⟨fun p1 => ?_, fun p1 => Ans.refl (hR' _ (by simp [p0, p1]))⟩
      refine CallK.is (inP_fn T _ _ _ _) ?_
      simp [c2]
      refine ⟨fun p2 => ?_, fun p2 => Ans.refl (hR' _ (by simp [p0, p1, p2]))⟩
      refine CallK.is (inP_fn T _ _ _ _) ?_
      simp [c3]
      refine ⟨fun p3 => ?_, fun p3 => Ans.refl (hR' _ (by simp [p0, p1, p2, p3]))⟩
      refine CallK.is (inP_fn T _ _ _ _) ?_
      simp [c5]
      refine ⟨fun p4 => ?_, fun p4 => Ans.refl (hR' _ (by simp [p0, p1, p2, p3, p4]))⟩
      refine CallK.is (inP_fn T _ _ _ _) ?_
      simp [c6]
      refine ⟨fun p5 => ?_, fun p5 => Ans.refl (hR' _ (by simp [p0, p1, p2, p3, p4, p5]))⟩
      refine CallK.is (inP_fn T _ _ _ _) ?_
      simp
      exact Ans.refl (hR' _ (by simp [p0, p1, p2, p3, p4, p5]))
end Go.Proofs
