/-
  Walks by Sx; no condition beyond those that stand in each statement.
-/
import Derived.Test.YtfjdbhgnnpmceaaSxuRplB
namespace Go.Proofs
open Go Go.Sx
set_option maxRecDepth 100000
attribute [local simp] xm
variable (T : TyOk Try.prog (tyOf Try.prog Try.eqs)) (hm : Try.prog.follows .mixedOrders = true)
include T hm
set_option maxHeartbeats 8000000 in
theorem putReply_fn (r : Rp) (H : Heap) : Sx.Fn Try.prog 33 [.agg r.cells.toArray] H fun v h => PutR H (putR r) v h := by
  refine fn_w T xm Try.func33 rfl (by kernel_rfl) Try.results33 Try.ntmps33 (by simp) fun R hR => ?_
  obtain ⟨k0, k1, k2, k3, k4, k5, n0, n1, n2, n3, n4, n5, n6, n7⟩ := r
  simp [Rp.cells]
  obtain ⟨aw, haw⟩ : ∃ aw : Nat → An, aw = fun i => ⟨k0, k1, k2, k3, k4, k5, n0, n1, n2, n3, n4, n5, n6, n7, k5, if 0 < i then n0.toNat else 0, if 1 < i then n1.toNat else 0, if 2 < i then n2.toNat else 0, if 3 < i then n3.toNat else 0, if 4 < i then n4.toNat else 0, if 5 < i then n5.toNat else 0, if 6 < i then n6.toNat else 0, if 7 < i then n7.toNat else 0⟩ := ⟨_, rfl⟩
  refine W_for T xm (fun i => ⟨[(1, .v (.pointer (some ⟨H.length, 0, none⟩))), (4, .v (.pointer (some ⟨H.length + 1, 0, none⟩))), (17, .v (.agg #[.int .u8 n0.toNat, .int .u8 n1.toNat, .int .u8 n2.toNat, .int .u8 n3.toNat, .int .u8 n4.toNat, .int .u8 n5.toNat, .int .u8 n6.toNat, .int .u8 n7.toNat])), (18, .v (.int .i64 i))], H ++ [some (.cells (Rp.mk k0 k1 k2 k3 k4 k5 n0 n1 n2 n3 n4 n5 n6 n7).cells true 0), some (.cells (aw i).cells true 0)]⟩) 8 ⟨by simp, by rw [haw]; rfl⟩ ?_
  intro i hi K Q hK hQ
  have z : ∀ b : UInt8, IntKind.i64.wrap (b.toNat : Int) = b.toNat := fun b => by have := b.toNat_lt; simp [IntKind.wrap, IntKind.signed, IntKind.bits]; omega
  have z2 : ∀ b : UInt8, (b.toNat : Int) ≤ 9223372036854775807 := fun b => by have := b.toNat_lt; omega
  rcases (show i = 8 ∨ i = 0 ∨ i = 1 ∨ i = 2 ∨ i = 3 ∨ i = 4 ∨ i = 5 ∨ i = 6 ∨ i = 7 by omega) with rfl | rfl | rfl | rfl | rfl | rfl | rfl | rfl | rfl
  · obtain ⟨r, hr⟩ : ∃ r, r = (Rp.mk k0 k1 k2 k3 k4 k5 n0 n1 n2 n3 n4 n5 n6 n7) := ⟨_, rfl⟩
    rw [← hr] at hR ⊢
    have ew : ((((((((((aw 8).cells.set 5 (Value.int IntKind.i64 0)).set 6 (Value.int IntKind.u8 0)).set 7 (Value.int IntKind.u8 0)).set 8 (Value.int IntKind.u8 0)).set 9 (Value.int IntKind.u8 0)).set 10 (Value.int IntKind.u8 0)).set 11 (Value.int IntKind.u8 0)).set 12 (Value.int IntKind.u8 0)).set 13 (Value.int IntKind.u8 0)) = r.an.cells := by rw [haw, hr]; rfl
    have kr : r.kind = k0 := by rw [hr]
    simp
    refine hQ _ _ ?_
    simp [ew]
    clear ew haw hQ
    have c0 : r.cells[0]? = some (.int .i64 r.kind) := rfl
    refine CallK.of (rfields_fn T hm r.kind r.an.cells (H.length + 1) H.length 0 _ (by simp) rfl (by simp)) ?_
    rintro _ _ ⟨L, rfl, hr2⟩
    cases hf : rpFs r.kind with
    | none =>
      rw [hf] at hr2
      subst hr2
      simp
      exact Ans.refl (hR _ _ ⟨_, rfl, by simp [putR, hf]⟩)
    | some fs =>
      obtain ⟨hgood, hfl, hk1, hk2, hk0⟩ := rpFs_good hf
      rw [hf] at hr2
      obtain ⟨p, c, cs, rfl, hp, hFR⟩ := hr2
      simp at hFR
      obtain ⟨kb, hkb⟩ : ∃ kb : UInt8, kb = b8 r.kind := ⟨_, rfl⟩
      have hw : IntKind.u8.wrap r.kind = (kb.toNat : Int) := by rw [hkb]; exact wrap_b8 (by omega) (by omega)
      simp [c0, zerosN_4, zerosN_0, hw]
      have hpl := cellsAt_lt hp
      refine CallK.of (write_fn T hm fs r.an.cells r.cells [kb] rfl _ (H.length + (L.length + 1 + 1)) (H.length + 1) H.length (H.length + 2 + p) c 0 0 0 cs (by omega) (by omega) (by omega) (by omega) (by omega) (by omega) (by simp) (by simp) (by simp [u8s]) ?_ ?_ ?_ ?_ hfl) ?_
      · rw [show H.length + 2 + p = H.length + (p + 1 + 1) by omega]
        simp
        rw [hget_append hpl, ← cellsAt_eq]
        exact hp
      · have h2 := hFR.mono (fun _ _ q => hget_old q [some (Blk.cells [Value.int IntKind.u8 kb.toNat] true 0)])
        simpa using h2
      · rintro bx ⟨n, u, hb⟩ rfl
        simp at hb
      · intro f hfm
        exact (goodA_rd (hgood f hfm) _ _).2.2.2
      · rintro v h ⟨A', B', M, rfl, hr3⟩
        rw [wrV_A _ _ _ _ hgood] at hr3
        have hpp : putR r = (wrR fs r.an [kb]).bind fun p => if p.2 = An.of r.kind then some p.1 else none := by
          rw [hkb]; simp only [putR, hf, Option.bind_some]
        rw [hpp] at hR
        clear hpp
        have hkd := wrR_kind fs r.an [kb] hk0
        generalize wrR fs _ [kb] = o at hr3 hR hkd
        cases o with
        | none =>
          simp at hr3
          subst hr3
          simp
          refine cw_drawl T hm xm [9, 66] (.soft 0 false <| .soft 1 false <| .soft 2 false <| .soft 3 false <| .soft 4 true <| .soft 5 true <| .soft 6 false <| .soft 7 true <| .soft 8 false <| .soft 9 false <| .soft 10 false <| .soft 11 false <| .stop) (by kernel_rfl) fun K2 hK2 => ?_
          simp
          refine hK2 _ ?_
          simp
          exact Ans.refl (hR _ _ ⟨_, rfl, rfl⟩)
        | some o =>
          obtain ⟨o, m2⟩ := o
          simp at hr3
          obtain ⟨rfl, rfl, q, hq, rfl⟩ := hr3
          have hk2 : m2.kind = r.kind := hkd _ _ rfl
          have e0 : List.take 23 m2.cells = m2.cells := rfl
          simp
          refine cw_drawl T hm xm [9, 66] (.soft 0 false <| .soft 1 false <| .soft 2 false <| .soft 3 false <| .soft 4 true <| .soft 5 true <| .soft 6 false <| .soft 7 true <| .soft 8 false <| .soft 9 false <| .soft 10 false <| .soft 11 false <| .stop) (by kernel_rfl) fun K2 hK2 => ?_
          simp [c0, e0, flatEq_Az]
          refine hK2 _ ?_
          simp
          refine ⟨fun h1 => ?_, fun h1 => ?_⟩
          · exact Ans.refl (hR _ _ ⟨_, rfl, by simp [h1]⟩)
          · refine Ans.refl (hR _ _ ⟨_, rfl, ?_⟩)
            simp [h1]
            exact ⟨L.length + (q + 1) + 1 + 1, by simpa using hq, by omega⟩
  · simp [z, z2]
    exact hK _ _ (by omega) (by simp) (by rw [haw]; rfl) (by simp)
  · simp [z, z2]
    exact hK _ _ (by omega) (by simp) (by rw [haw]; rfl) (by simp)
  · simp [z, z2]
    exact hK _ _ (by omega) (by simp) (by rw [haw]; rfl) (by simp)
  · simp [z, z2]
    exact hK _ _ (by omega) (by simp) (by rw [haw]; rfl) (by simp)
  · simp [z, z2]
    exact hK _ _ (by omega) (by simp) (by rw [haw]; rfl) (by simp)
  · simp [z, z2]
    exact hK _ _ (by omega) (by simp) (by rw [haw]; rfl) (by simp)
  · simp [z, z2]
    exact hK _ _ (by omega) (by simp) (by rw [haw]; rfl) (by simp)
  · simp [z, z2]
    exact hK _ _ (by omega) (by simp) (by rw [haw]; rfl) (by simp)
end Go.Proofs
