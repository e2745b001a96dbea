-- PRINTED BY print.sh 35421559b90ae4d0a3588c463048766b98c2df88dd9212a6774a882060cdf62d: not written by this session
import Derived.Test.YtnbmjpcnjjpcpaaPWindowOncex0
import Derived.Test.YtnbmjpcnjjpcpaaPWindowOncex1
import Derived.Test.YtnbmjpcnjjpcpaaPWindowOncex2
import Derived.Test.YtnbmjpcnjjpcpaaPWindowOncex3
namespace Go.Proofs.Ytnbmjpcnjjpcpaa.PWindowOnce
open Go.RowKit Go.Proofs.YtnbmjpcnjjpcpaaW.PrintWords Go.Proofs.YtnbmjpcnjjpcpaaW.PrintLast Go.Proofs.YtnbmjpcnjjpcpaaW.PrintMore
attribute [local go_sem] max2_int min2_int max_two min_two max_three min_three max_four min_four   -- for this text's walks alone
set_option linter.unusedVariables false
set_option linter.unusedSimpArgs false

attribute [local go_sem high] eqA27
/-! ### sidesticklaw10_WindowOnce: function 3 -/
mutual
def sidesticklaw10_WindowOnce.l0 : Nat → List Int → Int → Bool → List Int → Int → Int → Bool → Int → Int → Option (Bool)
  | 0, _, _, _, _, _, _, _, _, _ => none
  | k + 1, x0, x1, x5, x7, x8, x9, x126000, x126001, x126002 => if x9 < (x0.length : Int) then (sidesticklaw10_WindowOnce.j1 k x0 x1 x5 x7 x8 x9 (decide (x9 < 100)) x126000 x126001 x126002) else (sidesticklaw10_WindowOnce.j1 k x0 x1 x5 x7 x8 x9 false x126000 x126001 x126002)
def sidesticklaw10_WindowOnce.j1 : Nat → List Int → Int → Bool → List Int → Int → Int → Bool → Bool → Int → Int → Option (Bool)
  | 0, _, _, _, _, _, _, _, _, _, _ => none
  | k + 1, x0, x1, x5, x7, x8, x9, x25, x126000, x126001, x126002 => if x25 = true then (if 0 ≤ x9 then (if x9 < (x0.length : Int) then (if x8 < 0 then (sidesticklaw10_WindowOnce.j2 k x0 x1 x5 x7 x8 x9 (mn (wrap64 ((wrap64 (x1)) + (wrap64 (rd x0 x9)))) 4294967295) true x126000 x126001 x126002) else (sidesticklaw10_WindowOnce.j2 k x0 x1 x5 x7 x8 x9 (mn (wrap64 ((wrap64 (x1)) + (wrap64 (rd x0 x9)))) 4294967295) (decide ((mn (wrap64 ((wrap64 (x1)) + (wrap64 (rd x0 x9)))) 4294967295) > (wrap64 (x8 - 64)))) x126000 x126001 x126002)) else (none)) else (none)) else (some x5)
def sidesticklaw10_WindowOnce.j2 : Nat → List Int → Int → Bool → List Int → Int → Int → Int → Bool → Bool → Int → Int → Option (Bool)
  | 0, _, _, _, _, _, _, _, _, _, _, _ => none
  | k + 1, x0, x1, x5, x7, x8, x9, x10, x11, x126000, x126001, x126002 => sidesticklaw10_WindowOnce.l1 k x0 x1 x5 x7 x8 x9 x10 x11 0 x126000 x126001 x126002
def sidesticklaw10_WindowOnce.l1 : Nat → List Int → Int → Bool → List Int → Int → Int → Int → Bool → Int → Bool → Int → Int → Option (Bool)
  | 0, _, _, _, _, _, _, _, _, _, _, _, _ => none
  | k + 1, x0, x1, x5, x7, x8, x9, x10, x11, x12, x126000, x126001, x126002 => if x12 < (x7.length : Int) then (if x11 = true then (if 0 ≤ x12 then (sidesticklaw10_WindowOnce.l1 k x0 x1 x5 x7 x8 x9 x10 ((rd x7 x12) != x10) (wrap64 (x12 + 1)) x126000 x126001 x126002) else (none)) else (sidesticklaw10_WindowOnce.l1 k x0 x1 x5 x7 x8 x9 x10 false (wrap64 (x12 + 1)) x126000 x126001 x126002)) else ((window_See.f k x126000 x126001 x126002 x10).bind fun bt131 => (if (bt131.2.2.2 != x11) = true then (sidesticklaw10_WindowOnce.j4 k x0 x1 x5 x7 x8 x9 x10 bt131.2.2.2 true bt131.1 bt131.2.1 bt131.2.2.1) else (if bt131.2.2.2 = true then (sidesticklaw10_WindowOnce.j4 k x0 x1 x5 x7 x8 x9 x10 bt131.2.2.2 false bt131.1 bt131.2.1 bt131.2.2.1) else (sidesticklaw10_WindowOnce.j4 k x0 x1 x5 x7 x8 x9 x10 bt131.2.2.2 (!(bt131.1 == x126000) || (!(bt131.2.1 == x126001) || (!(bt131.2.2.1 == x126002)))) bt131.1 bt131.2.1 bt131.2.2.1))))
def sidesticklaw10_WindowOnce.j4 : Nat → List Int → Int → Bool → List Int → Int → Int → Int → Bool → Bool → Bool → Int → Int → Option (Bool)
  | 0, _, _, _, _, _, _, _, _, _, _, _, _ => none
  | k + 1, x0, x1, x5, x7, x8, x9, x10, x14, x77, x136000, x136001, x136002 => if x77 = true then (some false) else (if x14 = true then (if x7.length < 17592186044416 then ((some (x7 ++ [x10] : List Int)).bind fun y136 => (if (mx x8 x10) ≥ 0 then (if x136000 = true then (if x136001 = (mx x8 x10) then (if (Go.bits .and .u64 x136002 1) = 1 then (sidesticklaw10_WindowOnce.l0 k x0 x1 x5 y136 (mx x8 x10) (wrap64 (x9 + 1)) x136000 x136001 x136002) else (some false)) else (some false)) else (some false)) else (sidesticklaw10_WindowOnce.l0 k x0 x1 x5 y136 (mx x8 x10) (wrap64 (x9 + 1)) x136000 x136001 x136002))) else (none)) else (if x8 ≥ 0 then (if x136000 = true then (if x136001 = x8 then (if (Go.bits .and .u64 x136002 1) = 1 then (sidesticklaw10_WindowOnce.l0 k x0 x1 x5 x7 x8 (wrap64 (x9 + 1)) x136000 x136001 x136002) else (some false)) else (some false)) else (some false)) else (sidesticklaw10_WindowOnce.l0 k x0 x1 x5 x7 x8 (wrap64 (x9 + 1)) x136000 x136001 x136002)))
end
def sidesticklaw10_WindowOnce.f (k : Nat) (l0 : List Int) (a1 : Int) : Option (Bool) := (sidesticklaw10_shown.f k).bind fun t124 => (sidesticklaw10_WindowOnce.l0 k l0 a1 t124 (([] : List Int)) (-1) 0 false 0 0)
theorem sidesticklaw10_WindowOnce.mono_l : ∀ k, (∀ y0 y1 y2 y3 y4 y5 y6 y7 y8, LeO (sidesticklaw10_WindowOnce.l0 k y0 y1 y2 y3 y4 y5 y6 y7 y8) (sidesticklaw10_WindowOnce.l0 (k + 1) y0 y1 y2 y3 y4 y5 y6 y7 y8)) ∧ (∀ y0 y1 y2 y3 y4 y5 y6 y7 y8 y9, LeO (sidesticklaw10_WindowOnce.j1 k y0 y1 y2 y3 y4 y5 y6 y7 y8 y9) (sidesticklaw10_WindowOnce.j1 (k + 1) y0 y1 y2 y3 y4 y5 y6 y7 y8 y9)) ∧ (∀ y0 y1 y2 y3 y4 y5 y6 y7 y8 y9 y10, LeO (sidesticklaw10_WindowOnce.j2 k y0 y1 y2 y3 y4 y5 y6 y7 y8 y9 y10) (sidesticklaw10_WindowOnce.j2 (k + 1) y0 y1 y2 y3 y4 y5 y6 y7 y8 y9 y10)) ∧ (∀ y0 y1 y2 y3 y4 y5 y6 y7 y8 y9 y10 y11, LeO (sidesticklaw10_WindowOnce.l1 k y0 y1 y2 y3 y4 y5 y6 y7 y8 y9 y10 y11) (sidesticklaw10_WindowOnce.l1 (k + 1) y0 y1 y2 y3 y4 y5 y6 y7 y8 y9 y10 y11)) ∧ (∀ y0 y1 y2 y3 y4 y5 y6 y7 y8 y9 y10 y11, LeO (sidesticklaw10_WindowOnce.j4 k y0 y1 y2 y3 y4 y5 y6 y7 y8 y9 y10 y11) (sidesticklaw10_WindowOnce.j4 (k + 1) y0 y1 y2 y3 y4 y5 y6 y7 y8 y9 y10 y11))
  | 0 => ⟨fun _ _ _ _ _ _ _ _ _ r h => by simp [sidesticklaw10_WindowOnce.l0] at h, fun _ _ _ _ _ _ _ _ _ _ r h => by simp [sidesticklaw10_WindowOnce.j1] at h, fun _ _ _ _ _ _ _ _ _ _ _ r h => by simp [sidesticklaw10_WindowOnce.j2] at h, fun _ _ _ _ _ _ _ _ _ _ _ _ r h => by simp [sidesticklaw10_WindowOnce.l1] at h, fun _ _ _ _ _ _ _ _ _ _ _ _ r h => by simp [sidesticklaw10_WindowOnce.j4] at h⟩
  | k + 1 => by
    obtain ⟨ih0, ih1, ih2, ih3, ih4⟩ := sidesticklaw10_WindowOnce.mono_l k
    refine ⟨?_, ?_, ?_, ?_, ?_⟩
    · intro y0 y1 y2 y3 y4 y5 y6 y7 y8
      unfold sidesticklaw10_WindowOnce.l0
      repeat' first
      | (with_reducible exact ih0 _ _ _ _ _ _ _ _ _)
      | (with_reducible exact ih1 _ _ _ _ _ _ _ _ _ _)
      | (with_reducible exact ih2 _ _ _ _ _ _ _ _ _ _ _)
      | (with_reducible exact ih3 _ _ _ _ _ _ _ _ _ _ _ _)
      | (with_reducible exact ih4 _ _ _ _ _ _ _ _ _ _ _ _)
      | (with_reducible exact sidesticklaw10_shown.mono _)
      | (with_reducible exact window_See.mono _ _ _ _ _)
      | (with_reducible exact LeO.refl _)
      | (with_reducible exact LeO.none _)
      | (with_reducible refine LeO.ite ?_ ?_)
      | (with_reducible refine LeO.bind ?_ (fun _ => ?_))
      | exact ih0 _ _ _ _ _ _ _ _ _
      | exact ih1 _ _ _ _ _ _ _ _ _ _
      | exact ih2 _ _ _ _ _ _ _ _ _ _ _
      | exact ih3 _ _ _ _ _ _ _ _ _ _ _ _
      | exact ih4 _ _ _ _ _ _ _ _ _ _ _ _
      | exact sidesticklaw10_shown.mono _
      | exact window_See.mono _ _ _ _ _
      | exact LeO.none _
      | refine LeO.ite ?_ ?_
      | refine LeO.bind ?_ (fun _ => ?_)
    · intro y0 y1 y2 y3 y4 y5 y6 y7 y8 y9
      unfold sidesticklaw10_WindowOnce.j1
      repeat' first
      | (with_reducible exact ih0 _ _ _ _ _ _ _ _ _)
      | (with_reducible exact ih1 _ _ _ _ _ _ _ _ _ _)
      | (with_reducible exact ih2 _ _ _ _ _ _ _ _ _ _ _)
      | (with_reducible exact ih3 _ _ _ _ _ _ _ _ _ _ _ _)
      | (with_reducible exact ih4 _ _ _ _ _ _ _ _ _ _ _ _)
      | (with_reducible exact sidesticklaw10_shown.mono _)
      | (with_reducible exact window_See.mono _ _ _ _ _)
      | (with_reducible exact LeO.refl _)
      | (with_reducible exact LeO.none _)
      | (with_reducible refine LeO.ite ?_ ?_)
      | (with_reducible refine LeO.bind ?_ (fun _ => ?_))
      | exact ih0 _ _ _ _ _ _ _ _ _
      | exact ih1 _ _ _ _ _ _ _ _ _ _
      | exact ih2 _ _ _ _ _ _ _ _ _ _ _
      | exact ih3 _ _ _ _ _ _ _ _ _ _ _ _
      | exact ih4 _ _ _ _ _ _ _ _ _ _ _ _
      | exact sidesticklaw10_shown.mono _
      | exact window_See.mono _ _ _ _ _
      | exact LeO.none _
      | refine LeO.ite ?_ ?_
      | refine LeO.bind ?_ (fun _ => ?_)
    · intro y0 y1 y2 y3 y4 y5 y6 y7 y8 y9 y10
      unfold sidesticklaw10_WindowOnce.j2
      repeat' first
      | (with_reducible exact ih0 _ _ _ _ _ _ _ _ _)
      | (with_reducible exact ih1 _ _ _ _ _ _ _ _ _ _)
      | (with_reducible exact ih2 _ _ _ _ _ _ _ _ _ _ _)
      | (with_reducible exact ih3 _ _ _ _ _ _ _ _ _ _ _ _)
      | (with_reducible exact ih4 _ _ _ _ _ _ _ _ _ _ _ _)
      | (with_reducible exact sidesticklaw10_shown.mono _)
      | (with_reducible exact window_See.mono _ _ _ _ _)
      | (with_reducible exact LeO.refl _)
      | (with_reducible exact LeO.none _)
      | (with_reducible refine LeO.ite ?_ ?_)
      | (with_reducible refine LeO.bind ?_ (fun _ => ?_))
      | exact ih0 _ _ _ _ _ _ _ _ _
      | exact ih1 _ _ _ _ _ _ _ _ _ _
      | exact ih2 _ _ _ _ _ _ _ _ _ _ _
      | exact ih3 _ _ _ _ _ _ _ _ _ _ _ _
      | exact ih4 _ _ _ _ _ _ _ _ _ _ _ _
      | exact sidesticklaw10_shown.mono _
      | exact window_See.mono _ _ _ _ _
      | exact LeO.none _
      | refine LeO.ite ?_ ?_
      | refine LeO.bind ?_ (fun _ => ?_)
    · intro y0 y1 y2 y3 y4 y5 y6 y7 y8 y9 y10 y11
      unfold sidesticklaw10_WindowOnce.l1
      repeat' first
      | (with_reducible exact ih0 _ _ _ _ _ _ _ _ _)
      | (with_reducible exact ih1 _ _ _ _ _ _ _ _ _ _)
      | (with_reducible exact ih2 _ _ _ _ _ _ _ _ _ _ _)
      | (with_reducible exact ih3 _ _ _ _ _ _ _ _ _ _ _ _)
      | (with_reducible exact ih4 _ _ _ _ _ _ _ _ _ _ _ _)
      | (with_reducible exact sidesticklaw10_shown.mono _)
      | (with_reducible exact window_See.mono _ _ _ _ _)
      | (with_reducible exact LeO.refl _)
      | (with_reducible exact LeO.none _)
      | (with_reducible refine LeO.ite ?_ ?_)
      | (with_reducible refine LeO.bind ?_ (fun _ => ?_))
      | exact ih0 _ _ _ _ _ _ _ _ _
      | exact ih1 _ _ _ _ _ _ _ _ _ _
      | exact ih2 _ _ _ _ _ _ _ _ _ _ _
      | exact ih3 _ _ _ _ _ _ _ _ _ _ _ _
      | exact ih4 _ _ _ _ _ _ _ _ _ _ _ _
      | exact sidesticklaw10_shown.mono _
      | exact window_See.mono _ _ _ _ _
      | exact LeO.none _
      | refine LeO.ite ?_ ?_
      | refine LeO.bind ?_ (fun _ => ?_)
    · intro y0 y1 y2 y3 y4 y5 y6 y7 y8 y9 y10 y11
      unfold sidesticklaw10_WindowOnce.j4
      repeat' first
      | (with_reducible exact ih0 _ _ _ _ _ _ _ _ _)
      | (with_reducible exact ih1 _ _ _ _ _ _ _ _ _ _)
      | (with_reducible exact ih2 _ _ _ _ _ _ _ _ _ _ _)
      | (with_reducible exact ih3 _ _ _ _ _ _ _ _ _ _ _ _)
      | (with_reducible exact ih4 _ _ _ _ _ _ _ _ _ _ _ _)
      | (with_reducible exact sidesticklaw10_shown.mono _)
      | (with_reducible exact window_See.mono _ _ _ _ _)
      | (with_reducible exact LeO.refl _)
      | (with_reducible exact LeO.none _)
      | (with_reducible refine LeO.ite ?_ ?_)
      | (with_reducible refine LeO.bind ?_ (fun _ => ?_))
      | exact ih0 _ _ _ _ _ _ _ _ _
      | exact ih1 _ _ _ _ _ _ _ _ _ _
      | exact ih2 _ _ _ _ _ _ _ _ _ _ _
      | exact ih3 _ _ _ _ _ _ _ _ _ _ _ _
      | exact ih4 _ _ _ _ _ _ _ _ _ _ _ _
      | exact sidesticklaw10_shown.mono _
      | exact window_See.mono _ _ _ _ _
      | exact LeO.none _
      | refine LeO.ite ?_ ?_
      | refine LeO.bind ?_ (fun _ => ?_)
theorem sidesticklaw10_WindowOnce.mono : ∀ a0 a1 k, LeO (sidesticklaw10_WindowOnce.f k a0 a1) (sidesticklaw10_WindowOnce.f (k + 1) a0 a1) := by
  intro a0 a1 k
  obtain ⟨ih0, ih1, ih2, ih3, ih4⟩ := sidesticklaw10_WindowOnce.mono_l k
  unfold sidesticklaw10_WindowOnce.f
  repeat' first
      | (with_reducible exact ih0 _ _ _ _ _ _ _ _ _)
      | (with_reducible exact ih1 _ _ _ _ _ _ _ _ _ _)
      | (with_reducible exact ih2 _ _ _ _ _ _ _ _ _ _ _)
      | (with_reducible exact ih3 _ _ _ _ _ _ _ _ _ _ _ _)
      | (with_reducible exact ih4 _ _ _ _ _ _ _ _ _ _ _ _)
      | (with_reducible exact sidesticklaw10_shown.mono _)
      | (with_reducible exact window_See.mono _ _ _ _ _)
      | (with_reducible exact LeO.refl _)
      | (with_reducible exact LeO.none _)
      | (with_reducible refine LeO.ite ?_ ?_)
      | (with_reducible refine LeO.bind ?_ (fun _ => ?_))
      | exact ih0 _ _ _ _ _ _ _ _ _
      | exact ih1 _ _ _ _ _ _ _ _ _ _
      | exact ih2 _ _ _ _ _ _ _ _ _ _ _
      | exact ih3 _ _ _ _ _ _ _ _ _ _ _ _
      | exact ih4 _ _ _ _ _ _ _ _ _ _ _ _
      | exact sidesticklaw10_shown.mono _
      | exact window_See.mono _ _ _ _ _
      | exact LeO.none _
      | refine LeO.ite ?_ ?_
      | refine LeO.bind ?_ (fun _ => ?_)
set_option maxHeartbeats 8000000 in
set_option maxRecDepth 100000 in
theorem sidesticklaw10_WindowOnce.calls (k : Nat) (A0 : Option Addr) (c0 : Nat) (l0 : List Int) (a1 : Int) (r : Bool) (w : World) (hr0 : Kd.C (Kd.int .u16) w A0 l0.length l0) (hc0 : l0.length ≤ c0) (h : sidesticklaw10_WindowOnce.f k l0 a1 = some r) :
    Calls Try.prog 3 #[.slice A0 l0.length c0, .int .u32 a1] w fun e w' => e = .returned (.bool r) ∧ Below w.heap.size w w' := by
  have hu27 := Try.underlying27
  have HR0 := Aside0.mk hr0
  have HC0 := Aside0.mk hc0
  clear hr0 hc0
  have HB := Aside0.mk (Below.refl w.heap.size w)
  have H : ((sidesticklaw10_shown.f k).bind fun t124 => (sidesticklaw10_WindowOnce.l0 k l0 a1 t124 (([] : List Int)) (-1) 0 false 0 0)) = some r := h
  clear h
  replace H := Option.bind_eq_some_iff.mp H
  obtain ⟨t124, A30, H⟩ := H
  replace H : (sidesticklaw10_WindowOnce.l0 k l0 a1 t124 (([] : List Int)) (-1) 0 false 0 0) = some r := H
  have A3 := Aside0.mk A30
  clear A30
  obtain ⟨y126, hy126⟩ : ∃ y_ : List Int, y_ = (([] : List Int)) := ⟨_, rfl⟩
  replace H : (sidesticklaw10_WindowOnce.l0 k l0 a1 t124 y126 (-1) 0 false 0 0) = some r := by first | (rw [hy126]; with_reducible exact H) | (have H2_ := (Option.bind_some _ _).symm.trans H; rw [hy126]; with_reducible exact H2_) | (have H2_ := (Option.bind_some _ _).symm.trans H; with_reducible exact H2_) | with_reducible exact H | (rw [hy126]; exact H) | exact H
  have Ny126 := Aside0.mk hy126
  clear hy126
  have H' := Aside0.mk H
  clear H
  go_enter Try.func3, Try.ntmps3
  go_wp2_with (first | ((with_reducible refine gate_callee (f := 10) rfl ?_); refine goesL_ (some 15) rfl rfl Try.func10 (by kernel_rfl) rfl #[] rfl (by (try simp only [List.map_toArray, List.map_cons, List.map_nil]); first | done | rfl | (simp only [List.length_drop, List.length_take]; rfl)) ?_; (with_reducible refine (sidesticklaw10_shown.calls k  t124 _ A3.out).mono ?_); rintro e w4 ⟨rfl, hb⟩; refine ⟨_, rfl, ?_⟩; have n0_ := Aside0.mk (below_step (by repeat (first | (with_reducible first | exact HB.out | apply below_alloc | apply pw_below_drewN | apply below_drew1) | exact HB.out)) hb); clear HB; have HB := n0_; clear n0_; (try clear hb); (try clear hb2); (try clear hk); (try clear hi)) | ((with_reducible refine gate_dst (N := 6) rfl ?_); refine box_event ?hg (N := 6) ?hd (cs := #[.bool false, .int .i64 0, .int .u64 0]) (t := 27) ?hr ?_; (case hd => rfl); (case hg => rfl); (case hr => first | (go_simp; done) | (go_simp; rfl)); intro gb125 hg w5 hbox hb; have n0_ := Aside0.mk (below_step (by repeat (first | (with_reducible first | exact HB.out | apply below_alloc | apply pw_below_drewN | apply below_drew1) | exact HB.out)) hb); have n1_ := Aside0.mk (hbox); have n2_ := Aside0.mk ((by rw [hg]; exact (below_size (by repeat (first | (with_reducible first | exact HB.out | apply below_alloc | apply pw_below_drewN | apply below_drew1) | exact HB.out))) : w.heap.size ≤ gb125)); have n3_ := Aside0.mk ((by rw [hg]; exact (below_size (by repeat (first | (with_reducible first | exact HB.out | apply below_alloc | apply pw_below_drewN | apply below_drew1) | exact HB.out))) : w.heap.size ≤ gb125)); clear HB; have HB := n0_; have BK125 := n1_; have GW125 := n2_; have GE125 := n3_; clear n0_ n1_ n2_ n3_; clear hb hbox hg; have hcz6_0 : w5.cell? ⟨gb125, 0, none⟩ = some (.bool false) := (blk_cell BK125.out 0).trans rfl; have hcz6_1 : w5.cell? ⟨gb125, 1, none⟩ = some (.int .i64 0) := (blk_cell BK125.out 1).trans rfl; have hcz6_2 : w5.cell? ⟨gb125, 2, none⟩ = some (.int .u64 0) := (blk_cell BK125.out 2).trans rfl; have hfz6_0 := blk_frozen BK125.out 0; have hfz6_1 := blk_frozen BK125.out 1; have hfz6_2 := blk_frozen BK125.out 2) | ((with_reducible refine gate_dst (N := 17) rfl ?_); refine Kd.R_lit (Kd.int .i64) _ 3 ?hg (N := 17) ?hd (xs := ([] : List Int)) (inner := []) (ok := fun _ => True) (okp := fun _ => True) ?hr ?hp (fun _ hk => hk) trivial (Below.refl _ _) (Nat.le_refl _) (by simp) ?_; (case hd => rfl); (case hg => rfl); (case hr => first | (go_simp; done) | (go_simp; rfl)); (case hp => exact (Reps.none _ _)); intro v127 w7 ho8 hb hg_ hnew_; clear hg_ hnew_; (first | rw [← Ny126.out] at ho8 | (simp only [Int.reduceToNat] at ho8; rw [← Ny126.out] at ho8)); have n0_ := Aside0.mk (Kd.R_lower ho8 (below_size (by repeat (first | (with_reducible first | exact HB.out | apply below_alloc | apply pw_below_drewN | apply below_drew1 | refine below_set ?_ GE125.out) | exact HB.out)))); have n1_ := Aside0.mk (blk_below (g := gb125) (o := .cells #[.bool false, .int .i64 0, .int .u64 0] 27 (0, 0)) (by (with_reducible repeat (first | refine blk_drewN ?_ _ | refine blk_drew ?_ | refine blk_alloc ?_ _)); refine blk_put (cs := #[.bool false, .int .i64 0, .int .u64 0]) ?_ 2 _ rfl; (with_reducible repeat (first | refine blk_drewN ?_ _ | refine blk_drew ?_ | refine blk_alloc ?_ _)); refine blk_put (cs := #[.bool false, .int .i64 0, .int .u64 0]) ?_ 1 _ rfl; (with_reducible repeat (first | refine blk_drewN ?_ _ | refine blk_drew ?_ | refine blk_alloc ?_ _)); refine blk_put (cs := #[.bool false, .int .i64 0, .int .u64 0]) ?_ 0 _ rfl; (with_reducible repeat (first | refine blk_drewN ?_ _ | refine blk_drew ?_ | refine blk_alloc ?_ _)); exact BK125.out) hb); have n2_ := Aside0.mk (below_step (by repeat (first | (with_reducible first | exact HB.out | apply below_alloc | apply pw_below_drewN | apply below_drew1 | refine below_set ?_ GE125.out) | exact HB.out)) hb); clear BK125; clear HB; have HO128 := n0_; have BK125 := n1_; have HB := n2_; clear n0_ n1_ n2_; clear hb ho8))
  go_loopg [7, 8, 9] k (fun kq v7 v8 v9 w' => ∃ (x7_1 : List Int) (x8_1 : Int) (x9_1 : Int) (x126000_1 : Bool) (x126001_1 : Int) (x126002_1 : Int), v8 = .int .i64 x8_1 ∧ v9 = .int .i64 x9_1 ∧ Aside0 (sidesticklaw10_WindowOnce.l0 kq l0 a1 t124 x7_1 x8_1 x9_1 x126000_1 x126001_1 x126002_1 = some r) ∧ Aside0 (kq ≤ k) ∧ Aside0 (Kd.R (Kd.int .i64) 3 w' w.heap.size (fun _ => True) v7 x7_1) ∧ Aside0 (w'.heap[gb125]? = some (.cells #[.bool x126000_1, .int .i64 x126001_1, .int .u64 x126002_1] 27 (0, 0))) ∧ Aside0 (Below w.heap.size w w'))
  case atStart => exact ⟨(y126), ((-1)), (0), (false), (0), (0), (by first | rfl | (simp; done) | (simp [*]; done)), (by first | rfl | (simp; done) | (simp [*]; done)), H', ⟨Nat.le_refl _⟩, ⟨by (with_reducible repeat (first | apply Kd.R_alloc | apply Kd.R_drewN | apply Kd.R_drew)); exact HO128.out⟩, ⟨by (with_reducible repeat (first | refine blk_drewN ?_ _ | refine blk_drew ?_ | refine blk_alloc ?_ _)); exact BK125.out⟩, ⟨by repeat (first | (with_reducible first | exact HB.out | apply below_alloc | apply pw_below_drewN | apply below_drew1 | refine below_set ?_ GE125.out) | exact HB.out)⟩⟩
  case round =>
    clear H'
    try clear c1
    try clear p2
    try clear c3
    try clear hcz6_0
    try clear hcz6_1
    try clear hcz6_2
    try clear hfz6_0
    try clear hfz6_1
    try clear hfz6_2
    obtain ⟨x7_1, x8_1, x9_1, x126000_1, x126001_1, x126002_1, rfl, rfl, HA, HK1, HO_7, BK125, HB⟩ := hrel
    cases gk with
    | zero => exact absurd HA.out (by simp [sidesticklaw10_WindowOnce.l0])
    | succ k1 =>
      have H := HA.out
      clear HA
      simp only [sidesticklaw10_WindowOnce.l0] at H
      have HC9 := Aside0.mk H
      clear H
      go_upto_region 6 with (fail)
      go_cut [25] (fun v25 wc => ∃ (kq : Nat) (x25_8 : Bool), v25 = .bool x25_8 ∧ Aside0 (sidesticklaw10_WindowOnce.j1 kq l0 a1 t124 x7_1 x8_1 x9_1 x25_8 x126000_1 x126001_1 x126002_1 = some r) ∧ Aside0 (kq ≤ k1) ∧ Aside0 (Kd.R (Kd.int .i64) 3 wc w.heap.size (fun _ => True) u7 x7_1) ∧ Aside0 (wc.heap[gb125]? = some (.cells #[.bool x126000_1, .int .i64 x126001_1, .int .u64 x126002_1] 27 (0, 0))) ∧ Aside0 (Below w.heap.size w wc))
      case first =>
        have H := HC9.out
        clear HC9
        by_cases c10 : x9_1 < (l0.length : Int)
        · rw [if_pos c10] at H
          have c10b0 : decide (x9_1 < (l0.length : Int)) = true := decide_eq_true c10
          clear c10
          (first | rw [c10b0] | (simp only [i64_w, i32_w]; rw [c10b0]) | skip)
          have H' := Aside0.mk H
          clear H
          go_wp2
          go_meet
          case rel => exact ⟨_, (decide (x9_1 < 100)), (by first | rfl | (simp; done) | (simp [*]; done)), H', ⟨by have := HK1.out; first | omega | exact Nat.le_refl _⟩, ⟨by (with_reducible repeat (first | apply Kd.R_alloc | apply Kd.R_drewN | apply Kd.R_drew)); exact HO_7.out⟩, ⟨by (with_reducible repeat (first | refine blk_drewN ?_ _ | refine blk_drew ?_ | refine blk_alloc ?_ _)); exact BK125.out⟩, ⟨by repeat (first | (with_reducible first | exact HB.out | apply below_alloc | apply pw_below_drewN | apply below_drew1 | refine below_set ?_ GE125.out) | exact HB.out)⟩⟩
        · rw [if_neg c10] at H
          have c10b0 : decide (x9_1 < (l0.length : Int)) = false := decide_eq_false c10
          clear c10
          (first | rw [c10b0] | (simp only [i64_w, i32_w]; rw [c10b0]) | skip)
          have H' := Aside0.mk H
          clear H
          go_wp2
          go_meet
          case rel => exact ⟨_, (false), (by first | rfl | (simp; done) | (simp [*]; done)), H', ⟨by have := HK1.out; first | omega | exact Nat.le_refl _⟩, ⟨by (with_reducible repeat (first | apply Kd.R_alloc | apply Kd.R_drewN | apply Kd.R_drew)); exact HO_7.out⟩, ⟨by (with_reducible repeat (first | refine blk_drewN ?_ _ | refine blk_drew ?_ | refine blk_alloc ?_ _)); exact BK125.out⟩, ⟨by repeat (first | (with_reducible first | exact HB.out | apply below_alloc | apply pw_below_drewN | apply below_drew1 | refine below_set ?_ GE125.out) | exact HB.out)⟩⟩
      case rest =>
        clear HC9
        try clear c1
        try clear p2
        try clear c3
        try clear c10
        try clear c10b0
        try clear hcz6_0
        try clear hcz6_1
        try clear hcz6_2
        try clear hfz6_0
        try clear hfz6_1
        try clear hfz6_2
        try clear p2
        obtain ⟨kq, x25_8, rfl, HA, HJ8, HO_7, BK125, HB⟩ := hcut
        cases kq with
        | zero => exact absurd HA.out (by simp [sidesticklaw10_WindowOnce.j1])
        | succ kj8 =>
          have H := HA.out
          clear HA
          simp only [sidesticklaw10_WindowOnce.j1] at H
          by_cases c11 : x25_8 = true
          · subst c11
            have H1 : (if 0 ≤ x9_1 then (if x9_1 < (l0.length : Int) then (if x8_1 < 0 then (sidesticklaw10_WindowOnce.j2 kj8 l0 a1 t124 x7_1 x8_1 x9_1 (mn (wrap64 ((wrap64 (a1)) + (wrap64 (rd l0 x9_1)))) 4294967295) true x126000_1 x126001_1 x126002_1) else (sidesticklaw10_WindowOnce.j2 kj8 l0 a1 t124 x7_1 x8_1 x9_1 (mn (wrap64 ((wrap64 (a1)) + (wrap64 (rd l0 x9_1)))) 4294967295) (decide ((mn (wrap64 ((wrap64 (a1)) + (wrap64 (rd l0 x9_1)))) 4294967295) > (wrap64 (x8_1 - 64)))) x126000_1 x126001_1 x126002_1)) else (none)) else (none)) = some r := by rw [if_pos rfl] at H; exact H
            clear H
            have H := H1
            clear H1
            by_cases c12 : 0 ≤ x9_1
            · rw [if_pos c12] at H
              have c12b0 : decide (0 ≤ x9_1) = true := decide_eq_true c12
              clear c12
              by_cases c13 : x9_1 < (l0.length : Int)
              · rw [if_pos c13] at H
                have c13b0 : decide (x9_1 < (l0.length : Int)) = true := decide_eq_true c13
                clear c13
                obtain ⟨ji14, hji14⟩ : ∃ j_ : Int, (mn (wrap64 ((wrap64 (a1)) + (wrap64 (rd l0 x9_1)))) 4294967295) = j_ := ⟨_, rfl⟩
                replace H : (if x8_1 < 0 then (sidesticklaw10_WindowOnce.j2 kj8 l0 a1 t124 x7_1 x8_1 x9_1 ji14 true x126000_1 x126001_1 x126002_1) else (sidesticklaw10_WindowOnce.j2 kj8 l0 a1 t124 x7_1 x8_1 x9_1 ji14 (decide ((ji14) > (wrap64 (x8_1 - 64)))) x126000_1 x126001_1 x126002_1)) = some r := by first | (rw [hji14] at H; exact H) | (simp only [hji14] at H ⊢; exact H)
                have hji14_ : (if 4294967295 < (wrap64 ((wrap64 (a1)) + (wrap64 (rd l0 x9_1)))) then 4294967295 else (wrap64 ((wrap64 (a1)) + (wrap64 (rd l0 x9_1))))) = ji14 := hji14
                have HC15 := Aside0.mk H
                clear H
                have p129 : 0 ≤ (x9_1 : Int) := of_decide_eq_true (by first | (with_reducible assumption) | assumption)
                have q129 : x9_1 < (l0.length : Int) := of_decide_eq_true (by first | (with_reducible assumption) | assumption)
                obtain ⟨ad129, e129, hx129_0⟩ := Kd.at_int HR0.out x9_1 p129 q129
                cases e129
                replace hx129_0 := (HB.out.cell (World.block_lt_of_cell? w _ hx129_0)).trans hx129_0
                replace p129 := eq_true p129
                replace q129 := eq_true q129
                go_upto_region 9 with (fail)
                go_cut [11] (fun v11 wc => ∃ (kq : Nat) (x11_14 : Bool), v11 = .bool x11_14 ∧ Aside0 (sidesticklaw10_WindowOnce.j2 kq l0 a1 t124 x7_1 x8_1 x9_1 ji14 x11_14 x126000_1 x126001_1 x126002_1 = some r) ∧ Aside0 (kq ≤ kj8) ∧ Aside0 (Kd.R (Kd.int .i64) 3 wc w.heap.size (fun _ => True) u7 x7_1) ∧ Aside0 (wc.heap[gb125]? = some (.cells #[.bool x126000_1, .int .i64 x126001_1, .int .u64 x126002_1] 27 (0, 0))) ∧ Aside0 (Below w.heap.size w wc))
                case first =>
                  have H := HC15.out
                  clear HC15
                  by_cases c16 : x8_1 < 0
                  · rw [if_pos c16] at H
                    have c16b0 : decide (x8_1 < 0) = true := decide_eq_true c16
                    clear c16
                    (first | rw [c16b0] | (simp only [i64_w, i32_w]; rw [c16b0]) | skip)
                    have H' := Aside0.mk H
                    clear H
                    go_wp2
                    go_meet
                    case rel => exact ⟨_, (true), (by first | rfl | (simp; done) | (simp [*]; done)), H', ⟨by have := HK1.out; have := HJ8.out; first | omega | exact Nat.le_refl _⟩, ⟨by (with_reducible repeat (first | apply Kd.R_alloc | apply Kd.R_drewN | apply Kd.R_drew)); exact HO_7.out⟩, ⟨by (with_reducible repeat (first | refine blk_drewN ?_ _ | refine blk_drew ?_ | refine blk_alloc ?_ _)); exact BK125.out⟩, ⟨by repeat (first | (with_reducible first | exact HB.out | apply below_alloc | apply pw_below_drewN | apply below_drew1 | refine below_set ?_ GE125.out) | exact HB.out)⟩⟩
                  · rw [if_neg c16] at H
                    have c16b0 : decide (x8_1 < 0) = false := decide_eq_false c16
                    clear c16
                    (first | rw [c16b0] | (simp only [i64_w, i32_w]; rw [c16b0]) | skip)
                    have H' := Aside0.mk H
                    clear H
                    go_wp2
                    go_meet
                    case rel => exact ⟨_, (decide ((ji14) > (wrap64 (x8_1 - 64)))), (by first | rfl | (simp; done) | (simp only [← hji14] <;> (first | rfl | simp)) | (simp [*]; done)), H', ⟨by have := HK1.out; have := HJ8.out; first | omega | exact Nat.le_refl _⟩, ⟨by (with_reducible repeat (first | apply Kd.R_alloc | apply Kd.R_drewN | apply Kd.R_drew)); exact HO_7.out⟩, ⟨by (with_reducible repeat (first | refine blk_drewN ?_ _ | refine blk_drew ?_ | refine blk_alloc ?_ _)); exact BK125.out⟩, ⟨by repeat (first | (with_reducible first | exact HB.out | apply below_alloc | apply pw_below_drewN | apply below_drew1 | refine below_set ?_ GE125.out) | exact HB.out)⟩⟩
                case rest =>
                  clear HC15
                  try clear c1
                  try clear p1
                  try clear q1
                  try clear hx1
                  try clear p2
                  try clear c3
                  try clear p6
                  try clear c10
                  try clear c10b0
                  try clear c11
                  try clear c12
                  try clear c12b0
                  try clear p12
                  try clear q12
                  try clear hx12
                  try clear c13
                  try clear c13b0
                  try clear c16
                  try clear c16b0
                  try clear hcz6_0
                  try clear hcz6_1
                  try clear hcz6_2
                  try clear hfz6_0
                  try clear hfz6_1
                  try clear hfz6_2
                  try clear hx129_0
                  try clear p129
                  try clear p2
                  try clear q129
                  obtain ⟨kq, x11_14, rfl, HA, HJ14, HO_7, BK125, HB⟩ := hcut
                  cases kq with
                  | zero => exact absurd HA.out (by simp [sidesticklaw10_WindowOnce.j2])
                  | succ kj14 =>
                    have H := HA.out
                    clear HA
                    simp only [sidesticklaw10_WindowOnce.j2] at H
                    have H' := Aside0.mk H
                    clear H
                    go_wp2
                    go_loopg [11, 12] kj14 (fun kq v11 v12 w' => ∃ (x11_4 : Bool) (x12_4 : Int), v11 = .bool x11_4 ∧ v12 = .int .i64 x12_4 ∧ Aside0 (sidesticklaw10_WindowOnce.l1 kq l0 a1 t124 x7_1 x8_1 x9_1 ji14 x11_4 x12_4 x126000_1 x126001_1 x126002_1 = some r) ∧ Aside0 (kq ≤ kj14) ∧ Aside0 (Kd.R (Kd.int .i64) 3 w' w.heap.size (fun _ => True) u7 x7_1) ∧ Aside0 (w'.heap[gb125]? = some (.cells #[.bool x126000_1, .int .i64 x126001_1, .int .u64 x126002_1] 27 (0, 0))) ∧ Aside0 (Below w.heap.size w w'))
                    case atStart => exact ⟨(x11_14), (0), (by first | rfl | (simp; done) | (simp [*]; done)), (by first | rfl | (simp; done) | (simp [*]; done)), H', ⟨Nat.le_refl _⟩, ⟨by (with_reducible repeat (first | apply Kd.R_alloc | apply Kd.R_drewN | apply Kd.R_drew)); exact HO_7.out⟩, ⟨by (with_reducible repeat (first | refine blk_drewN ?_ _ | refine blk_drew ?_ | refine blk_alloc ?_ _)); exact BK125.out⟩, ⟨by repeat (first | (with_reducible first | exact HB.out | apply below_alloc | apply pw_below_drewN | apply below_drew1 | refine below_set ?_ GE125.out) | exact HB.out)⟩⟩
                    case round =>
                      clear H'
                      try clear c1
                      try clear p1
                      try clear q1
                      try clear hx1
                      try clear p2
                      try clear c3
                      try clear p6
                      try clear c10
                      try clear c10b0
                      try clear c11
                      try clear c12
                      try clear c12b0
                      try clear p12
                      try clear q12
                      try clear hx12
                      try clear c13
                      try clear c13b0
                      try clear c16
                      try clear c16b0
                      try clear hcz6_0
                      try clear hcz6_1
                      try clear hcz6_2
                      try clear hfz6_0
                      try clear hfz6_1
                      try clear hfz6_2
                      try clear hx129_0
                      try clear p1
                      try clear p12
                      try clear p129
                      try clear p2
                      try clear p6
                      try clear q1
                      try clear q12
                      try clear q129
                      obtain ⟨x11_4, x12_4, rfl, rfl, HA, HK4, HO_7, BK125, HB⟩ := hrel
                      cases gk with
                      | zero => exact absurd HA.out (by simp [sidesticklaw10_WindowOnce.l1])
                      | succ k4 =>
                        have H := HA.out
                        clear HA
                        simp only [sidesticklaw10_WindowOnce.l1] at H
                        by_cases c17 : x12_4 < (x7_1.length : Int)
                        · rw [if_pos c17] at H
                          have c17b0 : decide (x12_4 < (x7_1.length : Int)) = true := decide_eq_true c17
                          clear c17
                          by_cases c18 : x11_4 = true
                          · subst c18
                            have H1 : (if 0 ≤ x12_4 then (sidesticklaw10_WindowOnce.l1 k4 l0 a1 t124 x7_1 x8_1 x9_1 ji14 ((rd x7_1 x12_4) != ji14) (wrap64 (x12_4 + 1)) x126000_1 x126001_1 x126002_1) else (none)) = some r := by rw [if_pos rfl] at H; exact H
                            clear H
                            have H := H1
                            clear H1
                            by_cases c19 : 0 ≤ x12_4
                            · rw [if_pos c19] at H
                              have c19b0 : decide (0 ≤ x12_4) = true := decide_eq_true c19
                              clear c19
                              have H' := Aside0.mk H
                              clear H
                              obtain ⟨Ao20, co20, eo20⟩ := Kd.R_slice HO_7.out
                              subst eo20
                              have p130 : 0 ≤ (x12_4 : Int) := of_decide_eq_true (by first | (with_reducible assumption) | assumption)
                              have q130 : x12_4 < (x7_1.length : Int) := of_decide_eq_true (by first | (with_reducible assumption) | assumption)
                              obtain ⟨ad130, e130, hx130_0⟩ := Kd.at_int (Kd.R_reads' HO_7.out).2.2 x12_4 p130 q130
                              cases e130
                              replace p130 := eq_true p130
                              replace q130 := eq_true q130
                              go_wp2
                              go_roundg k4
                              case measure => have := HK1.out; have := HJ8.out; have := HJ14.out; have := HK4.out; omega
                              case rel => exact ⟨(((rd x7_1 x12_4) != ji14)), (wrap64 (x12_4 + 1)), (by first | rfl | (simp; done) | (simp only [← hji14] <;> (first | rfl | simp)) | (simp [*]; done)), (by first | rfl | (simp; done) | (simp [*]; done)), H', ⟨by have := HK1.out; have := HJ8.out; have := HJ14.out; have := HK4.out; omega⟩, ⟨by (with_reducible repeat (first | apply Kd.R_alloc | apply Kd.R_drewN | apply Kd.R_drew)); exact HO_7.out⟩, ⟨by (with_reducible repeat (first | refine blk_drewN ?_ _ | refine blk_drew ?_ | refine blk_alloc ?_ _)); exact BK125.out⟩, ⟨by repeat (first | (with_reducible first | exact HB.out | apply below_alloc | apply pw_below_drewN | apply below_drew1 | refine below_set ?_ GE125.out) | exact HB.out)⟩⟩
                            · rw [if_neg c19] at H
                              exact absurd H (by simp)
                          · replace c18 := Bool.eq_false_iff.mpr c18
                            subst c18
                            have H1 : (sidesticklaw10_WindowOnce.l1 k4 l0 a1 t124 x7_1 x8_1 x9_1 ji14 false (wrap64 (x12_4 + 1)) x126000_1 x126001_1 x126002_1) = some r := by rw [if_neg (show ¬ (false = true) by decide)] at H; exact H
                            clear H
                            have H := H1
                            clear H1
                            have H' := Aside0.mk H
                            clear H
                            obtain ⟨Ao21, co21, eo21⟩ := Kd.R_slice HO_7.out
                            subst eo21
                            go_wp2
                            go_roundg k4
                            case measure => have := HK1.out; have := HJ8.out; have := HJ14.out; have := HK4.out; omega
                            case rel => exact ⟨(false), (wrap64 (x12_4 + 1)), (by first | rfl | (simp; done) | (simp [*]; done)), (by first | rfl | (simp; done) | (simp [*]; done)), H', ⟨by have := HK1.out; have := HJ8.out; have := HJ14.out; have := HK4.out; omega⟩, ⟨by (with_reducible repeat (first | apply Kd.R_alloc | apply Kd.R_drewN | apply Kd.R_drew)); exact HO_7.out⟩, ⟨by (with_reducible repeat (first | refine blk_drewN ?_ _ | refine blk_drew ?_ | refine blk_alloc ?_ _)); exact BK125.out⟩, ⟨by repeat (first | (with_reducible first | exact HB.out | apply below_alloc | apply pw_below_drewN | apply below_drew1 | refine below_set ?_ GE125.out) | exact HB.out)⟩⟩
                        · rw [if_neg c17] at H
                          have c17b0 : decide (x12_4 < (x7_1.length : Int)) = false := decide_eq_false c17
                          clear c17
                          replace H := Option.bind_eq_some_iff.mp H
                          obtain ⟨⟨t131, t132, t133, t134⟩, A220, H⟩ := H
                          replace H : (if (t134 != x11_4) = true then (sidesticklaw10_WindowOnce.j4 k4 l0 a1 t124 x7_1 x8_1 x9_1 ji14 t134 true t131 t132 t133) else (if t134 = true then (sidesticklaw10_WindowOnce.j4 k4 l0 a1 t124 x7_1 x8_1 x9_1 ji14 t134 false t131 t132 t133) else (sidesticklaw10_WindowOnce.j4 k4 l0 a1 t124 x7_1 x8_1 x9_1 ji14 t134 (!(t131 == x126000_1) || (!(t132 == x126001_1) || (!(t133 == x126002_1)))) t131 t132 t133))) = some r := H
                          have A22 := Aside0.mk A220
                          clear A220
                          have HC23 := Aside0.mk H
                          clear H
                          obtain ⟨Ao24, co24, eo24⟩ := Kd.R_slice HO_7.out
                          subst eo24
                          have hcz25_0 : wr.cell? ⟨gb125, 0, none⟩ = some (.bool x126000_1) := (blk_cell BK125.out 0).trans rfl
                          have hcz25_1 : wr.cell? ⟨gb125, 1, none⟩ = some (.int .i64 x126001_1) := (blk_cell BK125.out 1).trans rfl
                          have hcz25_2 : wr.cell? ⟨gb125, 2, none⟩ = some (.int .u64 x126002_1) := (blk_cell BK125.out 2).trans rfl
                          have hfz25_0 := blk_frozen BK125.out 0
                          have hfz25_1 := blk_frozen BK125.out 1
                          have hfz25_2 := blk_frozen BK125.out 2
                          go_upto_region 15 with (first | ((with_reducible refine gate_callee (f := 11) rfl ?_); refine goesL_ (some 63) rfl rfl Try.func11 (by kernel_rfl) rfl #[.agg #[.bool x126000_1, .int .i64 x126001_1, .int .u64 x126002_1], .int .i64 ji14] rfl (by (try simp only [List.map_toArray, List.map_cons, List.map_nil]); first | done | (simp only [hji14]; rfl) | rfl | (simp only [List.length_drop, List.length_take]; rfl)) ?_; (with_reducible refine (window_See.calls k4 x126000_1 x126001_1 x126002_1 ji14 t131 t132 t133 t134 _ A22.out).mono ?_); rintro e w26 ⟨rfl, hb⟩; refine ⟨_, rfl, ?_⟩; have n0_ := Aside0.mk (Kd.R_below (by (with_reducible repeat (first | apply Kd.R_alloc | apply Kd.R_drewN | apply Kd.R_drew)); exact HO_7.out) hb); have n1_ := Aside0.mk (blk_below (g := gb125) (o := .cells #[.bool x126000_1, .int .i64 x126001_1, .int .u64 x126002_1] 27 (0, 0)) (by (with_reducible repeat (first | refine blk_drewN ?_ _ | refine blk_drew ?_ | refine blk_alloc ?_ _)); exact BK125.out) hb); have n2_ := Aside0.mk (below_step (by repeat (first | (with_reducible first | exact HB.out | apply below_alloc | apply pw_below_drewN | apply below_drew1 | refine below_set ?_ GE125.out) | exact HB.out)) hb); clear HO_7; clear BK125; clear HB; have HO_7 := n0_; have BK125 := n1_; have HB := n2_; clear n0_ n1_ n2_; (try clear hb); (try clear hb2); (try clear hk); (try clear hi)) | ((with_reducible refine gate_dst (N := 13) rfl ?_); refine box_event ?hg (N := 13) ?hd (cs := #[.bool false, .int .i64 0, .int .u64 0]) (t := 27) ?hr ?_; (case hd => rfl); (case hg => rfl); (case hr => first | (go_simp; done) | (go_simp; rfl)); intro gb135 hg w27 hbox hb; have n0_ := Aside0.mk (Kd.R_below (by (with_reducible repeat (first | apply Kd.R_alloc | apply Kd.R_drewN | apply Kd.R_drew)); exact HO_7.out) hb); have n1_ := Aside0.mk (blk_below (g := gb125) (o := .cells #[.bool x126000_1, .int .i64 x126001_1, .int .u64 x126002_1] 27 (0, 0)) (by (with_reducible repeat (first | refine blk_drewN ?_ _ | refine blk_drew ?_ | refine blk_alloc ?_ _)); exact BK125.out) hb); have n2_ := Aside0.mk (below_step (by repeat (first | (with_reducible first | exact HB.out | apply below_alloc | apply pw_below_drewN | apply below_drew1 | refine below_set ?_ GE125.out) | exact HB.out)) hb); have n3_ := Aside0.mk (hbox); have n4_ := Aside0.mk ((by rw [hg]; exact (below_size (by repeat (first | (with_reducible first | exact HB.out | apply below_alloc | apply pw_below_drewN | apply below_drew1 | refine below_set ?_ GE125.out) | exact HB.out))) : w.heap.size ≤ gb135)); have n5_ := Aside0.mk ((by rw [hg]; exact (below_size (by repeat (first | (with_reducible first | exact HB.out | apply below_alloc | apply pw_below_drewN | apply below_drew1 | refine below_set ?_ GE125.out) | exact HB.out))) : w.heap.size ≤ gb135)); have n6_ := Aside0.mk ((by rw [hg]; exact Nat.ne_of_lt (blk_lt (g := gb125) (o := .cells #[.bool x126000_1, .int .i64 x126001_1, .int .u64 x126002_1] 27 (0, 0)) (by (with_reducible repeat (first | refine blk_drewN ?_ _ | refine blk_drew ?_ | refine blk_alloc ?_ _)); exact BK125.out)) : gb125 ≠ gb135)); have n7_ := Aside0.mk ((by rw [hg]; exact Nat.ne_of_gt (blk_lt (g := gb125) (o := .cells #[.bool x126000_1, .int .i64 x126001_1, .int .u64 x126002_1] 27 (0, 0)) (by (with_reducible repeat (first | refine blk_drewN ?_ _ | refine blk_drew ?_ | refine blk_alloc ?_ _)); exact BK125.out)) : gb135 ≠ gb125)); clear HO_7; clear BK125; clear HB; have HO_7 := n0_; have BK125 := n1_; have HB := n2_; have BK135 := n3_; have GW135 := n4_; have GE135 := n5_; have NB125_135 := n6_; have NB135_125 := n7_; clear n0_ n1_ n2_ n3_ n4_ n5_ n6_ n7_; clear hb hbox hg; have hnb28 := NB135_125.out; have hnc28 := NB125_135.out; have hcz29_0 : w27.cell? ⟨gb135, 0, none⟩ = some (.bool false) := (blk_cell BK135.out 0).trans rfl; have hcz29_1 : w27.cell? ⟨gb135, 1, none⟩ = some (.int .i64 0) := (blk_cell BK135.out 1).trans rfl; have hcz29_2 : w27.cell? ⟨gb135, 2, none⟩ = some (.int .u64 0) := (blk_cell BK135.out 2).trans rfl; have hfz29_0 := blk_frozen BK135.out 0; have hfz29_1 := blk_frozen BK135.out 1; have hfz29_2 := blk_frozen BK135.out 2))
                          (try simp only [Act.put, List.setIfInBounds_toArray, List.set_cons_zero, List.set_cons_succ])
                          go_cut [77] (fun v77 wc => ∃ (kq : Nat) (x77_22 : Bool), v77 = .bool x77_22 ∧ Aside0 (sidesticklaw10_WindowOnce.j4 kq l0 a1 t124 x7_1 x8_1 x9_1 ji14 t134 x77_22 t131 t132 t133 = some r) ∧ Aside0 (kq ≤ k4) ∧ Aside0 (Kd.R (Kd.int .i64) 3 wc w.heap.size (fun _ => True) (.slice Ao24 x7_1.length co24) x7_1) ∧ Aside0 (wc.heap[gb125]? = some (.cells #[.bool x126000_1, .int .i64 x126001_1, .int .u64 x126002_1] 27 (0, 0))) ∧ Aside0 (wc.heap[gb135]? = some (.cells #[.bool t131, .int .i64 t132, .int .u64 t133] 27 (0, 0))) ∧ Aside0 (Below w.heap.size w wc))
                          case first =>
                            have H := HC23.out
                            clear HC23
                            by_cases c30 : (t134 != x11_4) = true
                            · rw [if_pos c30] at H
                              have c30b0 : (t134 != x11_4) = true := c30
                              (try (have c30b1 : decide (t134 = x11_4) = false := by simpa using c30))
                              (try (have c30b2 : (t134 == x11_4) = false := by simpa using c30))
                              (try (have c30b3 : ¬ (t134 = x11_4) := by simpa using c30))
                              clear c30
                              (first | rw [c30b0] | (simp only [i64_w, i32_w]; rw [c30b0]) | skip)
                              have H' := Aside0.mk H
                              clear H
                              go_wp2
                              go_meet
                              case rel => exact ⟨_, (true), (by first | rfl | (simp; done) | (simp [*]; done)), H', ⟨by have := HK1.out; have := HJ8.out; have := HJ14.out; have := HK4.out; first | omega | exact Nat.le_refl _⟩, ⟨by (with_reducible repeat (first | apply Kd.R_alloc | apply Kd.R_drewN | apply Kd.R_drew)); exact Kd.R_mono (Kd.R_far (p := ⟨gb135, 2, none⟩) (Kd.R_far (p := ⟨gb135, 1, none⟩) (Kd.R_far (p := ⟨gb135, 0, none⟩) (Kd.R_types HO_7.out BK135.out (by decide)) (fun _ hk => hk.2) (.bool t131)) (fun _ hk => hk.2) (.int .i64 t132)) (fun _ hk => hk.2) (.int .u64 t133)) (fun _ hk => trivial)⟩, ⟨by (with_reducible repeat (first | refine blk_drewN ?_ _ | refine blk_drew ?_ | refine blk_alloc ?_ _)); refine blk_far ?_ NB125_135.out _; (with_reducible repeat (first | refine blk_drewN ?_ _ | refine blk_drew ?_ | refine blk_alloc ?_ _)); refine blk_far ?_ NB125_135.out _; (with_reducible repeat (first | refine blk_drewN ?_ _ | refine blk_drew ?_ | refine blk_alloc ?_ _)); refine blk_far ?_ NB125_135.out _; (with_reducible repeat (first | refine blk_drewN ?_ _ | refine blk_drew ?_ | refine blk_alloc ?_ _)); exact BK125.out⟩, ⟨by (with_reducible repeat (first | refine blk_drewN ?_ _ | refine blk_drew ?_ | refine blk_alloc ?_ _)); refine blk_put (cs := #[.bool t131, .int .i64 t132, .int .u64 0]) ?_ 2 _ rfl; (with_reducible repeat (first | refine blk_drewN ?_ _ | refine blk_drew ?_ | refine blk_alloc ?_ _)); refine blk_put (cs := #[.bool t131, .int .i64 0, .int .u64 0]) ?_ 1 _ rfl; (with_reducible repeat (first | refine blk_drewN ?_ _ | refine blk_drew ?_ | refine blk_alloc ?_ _)); refine blk_put (cs := #[.bool false, .int .i64 0, .int .u64 0]) ?_ 0 _ rfl; (with_reducible repeat (first | refine blk_drewN ?_ _ | refine blk_drew ?_ | refine blk_alloc ?_ _)); exact BK135.out⟩, ⟨by repeat (first | (with_reducible first | exact HB.out | apply below_alloc | apply pw_below_drewN | apply below_drew1 | refine below_set ?_ GE125.out | refine below_set ?_ GE135.out) | exact HB.out)⟩⟩
                            · rw [if_neg c30] at H
                              have c30b0 : (t134 != x11_4) = false := by simpa using c30
                              (try (have c30b1 : decide (t134 = x11_4) = true := by simpa using c30))
                              (try (have c30b2 : (t134 == x11_4) = true := by simpa using c30))
                              clear c30
                              (first | rw [c30b0] | (simp only [i64_w, i32_w]; rw [c30b0]) | skip)
                              by_cases c31 : t134 = true
                              · subst c31
                                have H1 : (sidesticklaw10_WindowOnce.j4 k4 l0 a1 t124 x7_1 x8_1 x9_1 ji14 true false t131 t132 t133) = some r := by rw [if_pos rfl] at H; exact H
                                clear H
                                have H := H1
                                clear H1
                                have H' := Aside0.mk H
                                clear H
                                go_wp2
                                go_meet
                                case rel => exact ⟨_, (false), (by first | rfl | (simp; done) | (simp [*]; done)), H', ⟨by have := HK1.out; have := HJ8.out; have := HJ14.out; have := HK4.out; first | omega | exact Nat.le_refl _⟩, ⟨by (with_reducible repeat (first | apply Kd.R_alloc | apply Kd.R_drewN | apply Kd.R_drew)); exact Kd.R_mono (Kd.R_far (p := ⟨gb135, 2, none⟩) (Kd.R_far (p := ⟨gb135, 1, none⟩) (Kd.R_far (p := ⟨gb135, 0, none⟩) (Kd.R_types HO_7.out BK135.out (by decide)) (fun _ hk => hk.2) (.bool t131)) (fun _ hk => hk.2) (.int .i64 t132)) (fun _ hk => hk.2) (.int .u64 t133)) (fun _ hk => trivial)⟩, ⟨by (with_reducible repeat (first | refine blk_drewN ?_ _ | refine blk_drew ?_ | refine blk_alloc ?_ _)); refine blk_far ?_ NB125_135.out _; (with_reducible repeat (first | refine blk_drewN ?_ _ | refine blk_drew ?_ | refine blk_alloc ?_ _)); refine blk_far ?_ NB125_135.out _; (with_reducible repeat (first | refine blk_drewN ?_ _ | refine blk_drew ?_ | refine blk_alloc ?_ _)); refine blk_far ?_ NB125_135.out _; (with_reducible repeat (first | refine blk_drewN ?_ _ | refine blk_drew ?_ | refine blk_alloc ?_ _)); exact BK125.out⟩, ⟨by (with_reducible repeat (first | refine blk_drewN ?_ _ | refine blk_drew ?_ | refine blk_alloc ?_ _)); refine blk_put (cs := #[.bool t131, .int .i64 t132, .int .u64 0]) ?_ 2 _ rfl; (with_reducible repeat (first | refine blk_drewN ?_ _ | refine blk_drew ?_ | refine blk_alloc ?_ _)); refine blk_put (cs := #[.bool t131, .int .i64 0, .int .u64 0]) ?_ 1 _ rfl; (with_reducible repeat (first | refine blk_drewN ?_ _ | refine blk_drew ?_ | refine blk_alloc ?_ _)); refine blk_put (cs := #[.bool false, .int .i64 0, .int .u64 0]) ?_ 0 _ rfl; (with_reducible repeat (first | refine blk_drewN ?_ _ | refine blk_drew ?_ | refine blk_alloc ?_ _)); exact BK135.out⟩, ⟨by repeat (first | (with_reducible first | exact HB.out | apply below_alloc | apply pw_below_drewN | apply below_drew1 | refine below_set ?_ GE125.out | refine below_set ?_ GE135.out) | exact HB.out)⟩⟩
                              · replace c31 := Bool.eq_false_iff.mpr c31
                                subst c31
                                have H1 : (sidesticklaw10_WindowOnce.j4 k4 l0 a1 t124 x7_1 x8_1 x9_1 ji14 false (!(t131 == x126000_1) || (!(t132 == x126001_1) || (!(t133 == x126002_1)))) t131 t132 t133) = some r := by rw [if_neg (show ¬ (false = true) by decide)] at H; exact H
                                clear H
                                have H := H1
                                clear H1
                                have H' := Aside0.mk H
                                clear H
                                have hnb32 := NB135_125.out
                                have hnc32 := NB125_135.out
                                have hcz33_0 : w27.cell? ⟨gb135, 0, none⟩ = some (.bool false) := (blk_cell BK135.out 0).trans rfl
                                have hcz33_1 : w27.cell? ⟨gb135, 1, none⟩ = some (.int .i64 0) := (blk_cell BK135.out 1).trans rfl
                                have hcz33_2 : w27.cell? ⟨gb135, 2, none⟩ = some (.int .u64 0) := (blk_cell BK135.out 2).trans rfl
                                have hfz33_0 := blk_frozen BK135.out 0
                                have hfz33_1 := blk_frozen BK135.out 1
                                have hfz33_2 := blk_frozen BK135.out 2
                                have hcz34_0 : w27.cell? ⟨gb125, 0, none⟩ = some (.bool x126000_1) := (blk_cell BK125.out 0).trans rfl
                                have hcz34_1 : w27.cell? ⟨gb125, 1, none⟩ = some (.int .i64 x126001_1) := (blk_cell BK125.out 1).trans rfl
                                have hcz34_2 : w27.cell? ⟨gb125, 2, none⟩ = some (.int .u64 x126002_1) := (blk_cell BK125.out 2).trans rfl
                                have hfz34_0 := blk_frozen BK125.out 0
                                have hfz34_1 := blk_frozen BK125.out 1
                                have hfz34_2 := blk_frozen BK125.out 2
                                go_wp2
                                go_meet
                                case rel => exact ⟨_, ((!(t131 == x126000_1) || (!(t132 == x126001_1) || (!(t133 == x126002_1))))), (by first | rfl | (simp; done) | (simp [*]; done)), H', ⟨by have := HK1.out; have := HJ8.out; have := HJ14.out; have := HK4.out; first | omega | exact Nat.le_refl _⟩, ⟨by (with_reducible repeat (first | apply Kd.R_alloc | apply Kd.R_drewN | apply Kd.R_drew)); exact Kd.R_mono (Kd.R_far (p := ⟨gb135, 2, none⟩) (Kd.R_far (p := ⟨gb135, 1, none⟩) (Kd.R_far (p := ⟨gb135, 0, none⟩) (Kd.R_types HO_7.out BK135.out (by decide)) (fun _ hk => hk.2) (.bool t131)) (fun _ hk => hk.2) (.int .i64 t132)) (fun _ hk => hk.2) (.int .u64 t133)) (fun _ hk => trivial)⟩, ⟨by (with_reducible repeat (first | refine blk_drewN ?_ _ | refine blk_drew ?_ | refine blk_alloc ?_ _)); refine blk_far ?_ NB125_135.out _; (with_reducible repeat (first | refine blk_drewN ?_ _ | refine blk_drew ?_ | refine blk_alloc ?_ _)); refine blk_far ?_ NB125_135.out _; (with_reducible repeat (first | refine blk_drewN ?_ _ | refine blk_drew ?_ | refine blk_alloc ?_ _)); refine blk_far ?_ NB125_135.out _; (with_reducible repeat (first | refine blk_drewN ?_ _ | refine blk_drew ?_ | refine blk_alloc ?_ _)); exact BK125.out⟩, ⟨by (with_reducible repeat (first | refine blk_drewN ?_ _ | refine blk_drew ?_ | refine blk_alloc ?_ _)); refine blk_put (cs := #[.bool t131, .int .i64 t132, .int .u64 0]) ?_ 2 _ rfl; (with_reducible repeat (first | refine blk_drewN ?_ _ | refine blk_drew ?_ | refine blk_alloc ?_ _)); refine blk_put (cs := #[.bool t131, .int .i64 0, .int .u64 0]) ?_ 1 _ rfl; (with_reducible repeat (first | refine blk_drewN ?_ _ | refine blk_drew ?_ | refine blk_alloc ?_ _)); refine blk_put (cs := #[.bool false, .int .i64 0, .int .u64 0]) ?_ 0 _ rfl; (with_reducible repeat (first | refine blk_drewN ?_ _ | refine blk_drew ?_ | refine blk_alloc ?_ _)); exact BK135.out⟩, ⟨by repeat (first | (with_reducible first | exact HB.out | apply below_alloc | apply pw_below_drewN | apply below_drew1 | refine below_set ?_ GE125.out | refine below_set ?_ GE135.out) | exact HB.out)⟩⟩
                          case rest =>
                            clear HC23
                            try clear c1
                            try clear p1
                            try clear q1
                            try clear hx1
                            try clear c2
                            try clear p2
                            try clear c3
                            try clear p6
                            try clear c10
                            try clear c10b0
                            try clear c11
                            try clear c12
                            try clear c12b0
                            try clear p12
                            try clear q12
                            try clear hx12
                            try clear c13
                            try clear c13b0
                            try clear p13
                            try clear q13
                            try clear hx13
                            try clear c16
                            try clear c16b0
                            try clear c17
                            try clear c17b0
                            try clear c18
                            try clear c19
                            try clear c19b0
                            try clear c28
                            try clear c30
                            try clear c30b0
                            try clear c30b1
                            try clear c30b2
                            try clear c31
                            try clear c32
                            try clear hcz25_0
                            try clear hcz25_1
                            try clear hcz25_2
                            try clear hcz29_0
                            try clear hcz29_1
                            try clear hcz29_2
                            try clear hcz33_0
                            try clear hcz33_1
                            try clear hcz33_2
                            try clear hcz34_0
                            try clear hcz34_1
                            try clear hcz34_2
                            try clear hcz6_0
                            try clear hcz6_1
                            try clear hcz6_2
                            try clear hfz25_0
                            try clear hfz25_1
                            try clear hfz25_2
                            try clear hfz29_0
                            try clear hfz29_1
                            try clear hfz29_2
                            try clear hfz33_0
                            try clear hfz33_1
                            try clear hfz33_2
                            try clear hfz34_0
                            try clear hfz34_1
                            try clear hfz34_2
                            try clear hfz6_0
                            try clear hfz6_1
                            try clear hfz6_2
                            try clear hx129_0
                            try clear hx130_0
                            try clear p1
                            try clear p12
                            try clear p129
                            try clear p130
                            try clear p2
                            try clear p6
                            try clear q1
                            try clear q12
                            try clear q129
                            try clear q130
                            obtain ⟨kq, x77_22, rfl, HA, HJ22, HO_7, BK125, BK135, HB⟩ := hcut
                            cases kq with
                            | zero => exact absurd HA.out (by simp [sidesticklaw10_WindowOnce.j4])
                            | succ kj22 =>
                              have H := HA.out
                              clear HA
                              simp only [sidesticklaw10_WindowOnce.j4] at H
                              by_cases c35 : x77_22 = true
                              · subst c35
                                have H1 : (some false) = some r := by rw [if_pos rfl] at H; exact H
                                clear H
                                have H := H1
                                clear H1
                                obtain rfl := Option.some.inj H
                                go_wp2
                                go_ret
                                exact ⟨by first | rfl | (simp [errW_none, errW_some] <;> rfl) | (simp only [← hji14]; first | rfl | (simp [errW_none, errW_some] <;> rfl)) | (simp [*, errW_none, errW_some] <;> rfl), by repeat (first | (with_reducible first | exact HB.out | apply below_alloc | apply pw_below_drewN | apply below_drew1 | refine below_set ?_ GE125.out | refine below_set ?_ GE135.out) | exact HB.out)⟩
                              · replace c35 := Bool.eq_false_iff.mpr c35
                                subst c35
                                have H1 : (if t134 = true then (if x7_1.length < 17592186044416 then ((some (x7_1 ++ [ji14] : List Int)).bind fun y136 => (if (mx x8_1 ji14) ≥ 0 then (if t131 = true then (if t132 = (mx x8_1 ji14) then (if (Go.bits .and .u64 t133 1) = 1 then (sidesticklaw10_WindowOnce.l0 kj22 l0 a1 t124 y136 (mx x8_1 ji14) (wrap64 (x9_1 + 1)) t131 t132 t133) else (some false)) else (some false)) else (some false)) else (sidesticklaw10_WindowOnce.l0 kj22 l0 a1 t124 y136 (mx x8_1 ji14) (wrap64 (x9_1 + 1)) t131 t132 t133))) else (none)) else (if x8_1 ≥ 0 then (if t131 = true then (if t132 = x8_1 then (if (Go.bits .and .u64 t133 1) = 1 then (sidesticklaw10_WindowOnce.l0 kj22 l0 a1 t124 x7_1 x8_1 (wrap64 (x9_1 + 1)) t131 t132 t133) else (some false)) else (some false)) else (some false)) else (sidesticklaw10_WindowOnce.l0 kj22 l0 a1 t124 x7_1 x8_1 (wrap64 (x9_1 + 1)) t131 t132 t133))) = some r := by rw [if_neg (show ¬ (false = true) by decide)] at H; exact H
                                clear H
                                have H := H1
                                clear H1
                                by_cases c36 : t134 = true
                                · subst c36
                                  have H1 : (if x7_1.length < 17592186044416 then ((some (x7_1 ++ [ji14] : List Int)).bind fun y136 => (if (mx x8_1 ji14) ≥ 0 then (if t131 = true then (if t132 = (mx x8_1 ji14) then (if (Go.bits .and .u64 t133 1) = 1 then (sidesticklaw10_WindowOnce.l0 kj22 l0 a1 t124 y136 (mx x8_1 ji14) (wrap64 (x9_1 + 1)) t131 t132 t133) else (some false)) else (some false)) else (some false)) else (sidesticklaw10_WindowOnce.l0 kj22 l0 a1 t124 y136 (mx x8_1 ji14) (wrap64 (x9_1 + 1)) t131 t132 t133))) else (none)) = some r := by rw [if_pos rfl] at H; exact H
                                  clear H
                                  have H := H1
                                  clear H1
                                  by_cases c37 : x7_1.length < 17592186044416
                                  · rw [if_pos c37] at H
                                    have LMc37 := Aside0.mk c37
                                    clear c37
                                    obtain ⟨y136, hy136⟩ : ∃ y_ : List Int, y_ = (x7_1 ++ [ji14]) := ⟨_, rfl⟩
                                    replace H : (if (mx x8_1 ji14) ≥ 0 then (if t131 = true then (if t132 = (mx x8_1 ji14) then (if (Go.bits .and .u64 t133 1) = 1 then (sidesticklaw10_WindowOnce.l0 kj22 l0 a1 t124 y136 (mx x8_1 ji14) (wrap64 (x9_1 + 1)) t131 t132 t133) else (some false)) else (some false)) else (some false)) else (sidesticklaw10_WindowOnce.l0 kj22 l0 a1 t124 y136 (mx x8_1 ji14) (wrap64 (x9_1 + 1)) t131 t132 t133)) = some r := by first | (rw [hy136]; with_reducible exact H) | (have H2_ := (Option.bind_some _ _).symm.trans H; rw [hy136]; with_reducible exact H2_) | (have H2_ := (Option.bind_some _ _).symm.trans H; with_reducible exact H2_) | with_reducible exact H | (rw [hy136]; exact H) | exact H
                                    have Ny136 := Aside0.mk hy136
                                    clear hy136
                                    obtain ⟨ji38, hji38⟩ : ∃ j_ : Int, (mx x8_1 ji14) = j_ := ⟨_, rfl⟩
                                    replace H : (if (ji38) ≥ 0 then (if t131 = true then (if t132 = (ji38) then (if (Go.bits .and .u64 t133 1) = 1 then (sidesticklaw10_WindowOnce.l0 kj22 l0 a1 t124 y136 ji38 (wrap64 (x9_1 + 1)) t131 t132 t133) else (some false)) else (some false)) else (some false)) else (sidesticklaw10_WindowOnce.l0 kj22 l0 a1 t124 y136 ji38 (wrap64 (x9_1 + 1)) t131 t132 t133)) = some r := by first | (rw [hji38] at H; exact H) | (simp only [hji38] at H ⊢; exact H)
                                    have hji38_ : (if x8_1 < ji14 then ji14 else x8_1) = ji38 := hji38
                                    by_cases c39 : (ji38) ≥ 0
                                    · rw [if_pos c39] at H
                                      have c39b0 : decide (0 ≤ (ji38)) = true := decide_eq_true c39
                                      clear c39
                                      by_cases c40 : t131 = true
                                      · subst c40
                                        have H1 : (if t132 = (ji38) then (if (Go.bits .and .u64 t133 1) = 1 then (sidesticklaw10_WindowOnce.l0 kj22 l0 a1 t124 y136 ji38 (wrap64 (x9_1 + 1)) true t132 t133) else (some false)) else (some false)) = some r := by rw [if_pos rfl] at H; exact H
                                        clear H
                                        have H := H1
                                        clear H1
                                        by_cases c41 : t132 = (ji38)
                                        · rw [if_pos c41] at H
                                          have c41b0 : (t132 == (ji38)) = true := beq_iff_eq.mpr c41
                                          have c41b1 : (t132 != (ji38)) = false := bne_eq_false_iff_eq.mpr c41
                                          clear c41
                                          by_cases c42 : (Go.bits .and .u64 t133 1) = 1
                                          · rw [if_pos c42] at H
                                            have c42b0 : ((Go.bits .and .u64 t133 1) == 1) = true := beq_iff_eq.mpr c42
                                            have c42b1 : ((Go.bits .and .u64 t133 1) != 1) = false := bne_eq_false_iff_eq.mpr c42
                                            clear c42
                                            have H' := Aside0.mk H
                                            clear H
                                            have hnb43 := NB135_125.out
                                            have hnc43 := NB125_135.out
                                            have hcz44_0 : wc.cell? ⟨gb135, 0, none⟩ = some (.bool true) := (blk_cell BK135.out 0).trans rfl
                                            have hcz44_1 : wc.cell? ⟨gb135, 1, none⟩ = some (.int .i64 t132) := (blk_cell BK135.out 1).trans rfl
                                            have hcz44_2 : wc.cell? ⟨gb135, 2, none⟩ = some (.int .u64 t133) := (blk_cell BK135.out 2).trans rfl
                                            have hfz44_0 := blk_frozen BK135.out 0
                                            have hfz44_1 := blk_frozen BK135.out 1
                                            have hfz44_2 := blk_frozen BK135.out 2
                                            have hcz45_0 : wc.cell? ⟨gb125, 0, none⟩ = some (.bool x126000_1) := (blk_cell BK125.out 0).trans rfl
                                            have hcz45_1 : wc.cell? ⟨gb125, 1, none⟩ = some (.int .i64 x126001_1) := (blk_cell BK125.out 1).trans rfl
                                            have hcz45_2 : wc.cell? ⟨gb125, 2, none⟩ = some (.int .u64 x126002_1) := (blk_cell BK125.out 2).trans rfl
                                            have hfz45_0 := blk_frozen BK125.out 0
                                            have hfz45_1 := blk_frozen BK125.out 1
                                            have hfz45_2 := blk_frozen BK125.out 2
                                            go_wp2_with (first | ((with_reducible refine gate_builtin (b := .append) (xs := #[.tmp 80, .tmp 82]) rfl ?_); at_builtin; refine Kd.R_append (Kd.int .i64) (w0 := w) w.heap.size rfl (.tmp 80) (.tmp 82) 28 3 (.int .i64 0) 8 rfl Try.underlying28 info3 rfl (by decide) (by omega) (.slice Ao24 x7_1.length co24) x7_1 ji14 [.int .i64 ji14] (fun _ => True) (fun _ => False) rfl (by first | (go_simp; done) | (go_simp; rfl)) ?aP (fun _ hk => hk.elim) ?aF ?aO ?aB ?aS ?aL ?_; (case aP => exact rfl); (case aB => exact (by repeat (first | (with_reducible first | exact HB.out | apply below_alloc | apply pw_below_drewN | apply below_drew1 | refine below_set ?_ GE125.out | refine below_set ?_ GE135.out) | exact HB.out))); (case aF => exact (fun _ _ => trivial)); (case aO => exact (by (with_reducible repeat (first | apply Kd.R_alloc | apply Kd.R_drewN | apply Kd.R_drew)); exact Kd.R_mono (Kd.R_far (p := ⟨gb125, 2, none⟩) (Kd.R_far (p := ⟨gb125, 1, none⟩) (Kd.R_far (p := ⟨gb125, 0, none⟩) (Kd.R_types HO_7.out BK125.out (by decide)) (fun _ hk => hk.2) (.bool true)) (fun _ hk => hk.2) (.int .i64 t132)) (fun _ hk => hk.2) (.int .u64 t133)) (fun _ hk => trivial))); (case aS => exact (below_size (by repeat (first | (with_reducible first | exact HB.out | apply below_alloc | apply pw_below_drewN | apply below_drew1 | refine below_set ?_ GE125.out | refine below_set ?_ GE135.out) | exact HB.out)))); (case aL => have := LMc37.out; omega); intro v137 w46 ho hb hg hat; rw [← Ny136.out] at ho; have n0_ := Aside0.mk (blk_grown (g := gb125) (o := .cells #[.bool true, .int .i64 t132, .int .u64 t133] 27 (0, 0)) (by (with_reducible repeat (first | refine blk_drewN ?_ _ | refine blk_drew ?_ | refine blk_alloc ?_ _)); refine blk_put (cs := #[.bool true, .int .i64 t132, .int .u64 x126002_1]) ?_ 2 _ rfl; (with_reducible repeat (first | refine blk_drewN ?_ _ | refine blk_drew ?_ | refine blk_alloc ?_ _)); refine blk_put (cs := #[.bool true, .int .i64 x126001_1, .int .u64 x126002_1]) ?_ 1 _ rfl; (with_reducible repeat (first | refine blk_drewN ?_ _ | refine blk_drew ?_ | refine blk_alloc ?_ _)); refine blk_put (cs := #[.bool x126000_1, .int .i64 x126001_1, .int .u64 x126002_1]) ?_ 0 _ rfl; (with_reducible repeat (first | refine blk_drewN ?_ _ | refine blk_drew ?_ | refine blk_alloc ?_ _)); exact BK125.out) hg (Kd.R_ne HO_7.out BK125.out (by decide))); have n1_ := Aside0.mk (blk_grown (g := gb135) (o := .cells #[.bool true, .int .i64 t132, .int .u64 t133] 27 (0, 0)) (by (with_reducible repeat (first | refine blk_drewN ?_ _ | refine blk_drew ?_ | refine blk_alloc ?_ _)); refine blk_far ?_ NB135_125.out _; (with_reducible repeat (first | refine blk_drewN ?_ _ | refine blk_drew ?_ | refine blk_alloc ?_ _)); refine blk_far ?_ NB135_125.out _; (with_reducible repeat (first | refine blk_drewN ?_ _ | refine blk_drew ?_ | refine blk_alloc ?_ _)); refine blk_far ?_ NB135_125.out _; (with_reducible repeat (first | refine blk_drewN ?_ _ | refine blk_drew ?_ | refine blk_alloc ?_ _)); exact BK135.out) hg (Kd.R_ne HO_7.out BK135.out (by decide))); have n2_ := Aside0.mk (hb); have n3_ := Aside0.mk (ho); clear BK125; clear BK135; clear HB; clear HO_7; have BK125 := n0_; have BK135 := n1_; have HB := n2_; have HO138 := n3_; clear n0_ n1_ n2_ n3_; clear ho hb hg hat; have hcz47_0 : w46.cell? ⟨gb125, 0, none⟩ = some (.bool true) := (blk_cell BK125.out 0).trans rfl; have hcz47_1 : w46.cell? ⟨gb125, 1, none⟩ = some (.int .i64 t132) := (blk_cell BK125.out 1).trans rfl; have hcz47_2 : w46.cell? ⟨gb125, 2, none⟩ = some (.int .u64 t133) := (blk_cell BK125.out 2).trans rfl; have hfz47_0 := blk_frozen BK125.out 0; have hfz47_1 := blk_frozen BK125.out 1; have hfz47_2 := blk_frozen BK125.out 2))
                                            go_roundg kj22
                                            case measure => have := HK1.out; have := HJ8.out; have := HJ14.out; have := HK4.out; have := HJ22.out; omega
                                            case rel => exact ⟨(y136), (ji38), (wrap64 (x9_1 + 1)), (true), (t132), (t133), (by first | rfl | (simp; done) | (simp only [← hji38] <;> (first | rfl | simp)) | (simp [*]; done)), (by first | rfl | (simp; done) | (simp [*]; done)), H', ⟨by have := HK1.out; have := HJ8.out; have := HJ14.out; have := HK4.out; have := HJ22.out; omega⟩, ⟨by (with_reducible repeat (first | apply Kd.R_alloc | apply Kd.R_drewN | apply Kd.R_drew)); exact HO138.out⟩, ⟨by (with_reducible repeat (first | refine blk_drewN ?_ _ | refine blk_drew ?_ | refine blk_alloc ?_ _)); exact BK125.out⟩, ⟨by repeat (first | (with_reducible first | exact HB.out | apply below_alloc | apply pw_below_drewN | apply below_drew1 | refine below_set ?_ GE125.out | refine below_set ?_ GE135.out) | exact HB.out)⟩⟩
                                          · rw [if_neg c42] at H
                                            have c42b0 : ((Go.bits .and .u64 t133 1) == 1) = false := beq_eq_false_iff_ne.mpr c42
                                            have c42b1 : ((Go.bits .and .u64 t133 1) != 1) = true := bne_iff_ne.mpr c42
                                            obtain rfl := Option.some.inj H
                                            have hnb48 := NB135_125.out
                                            have hnc48 := NB125_135.out
                                            have hcz49_0 : wc.cell? ⟨gb135, 0, none⟩ = some (.bool true) := (blk_cell BK135.out 0).trans rfl
                                            have hcz49_1 : wc.cell? ⟨gb135, 1, none⟩ = some (.int .i64 t132) := (blk_cell BK135.out 1).trans rfl
                                            have hcz49_2 : wc.cell? ⟨gb135, 2, none⟩ = some (.int .u64 t133) := (blk_cell BK135.out 2).trans rfl
                                            have hfz49_0 := blk_frozen BK135.out 0
                                            have hfz49_1 := blk_frozen BK135.out 1
                                            have hfz49_2 := blk_frozen BK135.out 2
                                            have hcz50_0 : wc.cell? ⟨gb125, 0, none⟩ = some (.bool x126000_1) := (blk_cell BK125.out 0).trans rfl
                                            have hcz50_1 : wc.cell? ⟨gb125, 1, none⟩ = some (.int .i64 x126001_1) := (blk_cell BK125.out 1).trans rfl
                                            have hcz50_2 : wc.cell? ⟨gb125, 2, none⟩ = some (.int .u64 x126002_1) := (blk_cell BK125.out 2).trans rfl
                                            have hfz50_0 := blk_frozen BK125.out 0
                                            have hfz50_1 := blk_frozen BK125.out 1
                                            have hfz50_2 := blk_frozen BK125.out 2
                                            go_wp2_with (first | ((with_reducible refine gate_builtin (b := .append) (xs := #[.tmp 80, .tmp 82]) rfl ?_); at_builtin; refine Kd.R_append (Kd.int .i64) (w0 := w) w.heap.size rfl (.tmp 80) (.tmp 82) 28 3 (.int .i64 0) 8 rfl Try.underlying28 info3 rfl (by decide) (by omega) (.slice Ao24 x7_1.length co24) x7_1 ji14 [.int .i64 ji14] (fun _ => True) (fun _ => False) rfl (by first | (go_simp; done) | (go_simp; rfl)) ?aP (fun _ hk => hk.elim) ?aF ?aO ?aB ?aS ?aL ?_; (case aP => exact rfl); (case aB => exact (by repeat (first | (with_reducible first | exact HB.out | apply below_alloc | apply pw_below_drewN | apply below_drew1 | refine below_set ?_ GE125.out | refine below_set ?_ GE135.out) | exact HB.out))); (case aF => exact (fun _ _ => trivial)); (case aO => exact (by (with_reducible repeat (first | apply Kd.R_alloc | apply Kd.R_drewN | apply Kd.R_drew)); exact Kd.R_mono (Kd.R_far (p := ⟨gb125, 2, none⟩) (Kd.R_far (p := ⟨gb125, 1, none⟩) (Kd.R_far (p := ⟨gb125, 0, none⟩) (Kd.R_types HO_7.out BK125.out (by decide)) (fun _ hk => hk.2) (.bool true)) (fun _ hk => hk.2) (.int .i64 t132)) (fun _ hk => hk.2) (.int .u64 t133)) (fun _ hk => trivial))); (case aS => exact (below_size (by repeat (first | (with_reducible first | exact HB.out | apply below_alloc | apply pw_below_drewN | apply below_drew1 | refine below_set ?_ GE125.out | refine below_set ?_ GE135.out) | exact HB.out)))); (case aL => have := LMc37.out; omega); intro v137 w51 ho hb hg hat; rw [← Ny136.out] at ho; have n0_ := Aside0.mk (blk_grown (g := gb125) (o := .cells #[.bool true, .int .i64 t132, .int .u64 t133] 27 (0, 0)) (by (with_reducible repeat (first | refine blk_drewN ?_ _ | refine blk_drew ?_ | refine blk_alloc ?_ _)); refine blk_put (cs := #[.bool true, .int .i64 t132, .int .u64 x126002_1]) ?_ 2 _ rfl; (with_reducible repeat (first | refine blk_drewN ?_ _ | refine blk_drew ?_ | refine blk_alloc ?_ _)); refine blk_put (cs := #[.bool true, .int .i64 x126001_1, .int .u64 x126002_1]) ?_ 1 _ rfl; (with_reducible repeat (first | refine blk_drewN ?_ _ | refine blk_drew ?_ | refine blk_alloc ?_ _)); refine blk_put (cs := #[.bool x126000_1, .int .i64 x126001_1, .int .u64 x126002_1]) ?_ 0 _ rfl; (with_reducible repeat (first | refine blk_drewN ?_ _ | refine blk_drew ?_ | refine blk_alloc ?_ _)); exact BK125.out) hg (Kd.R_ne HO_7.out BK125.out (by decide))); have n1_ := Aside0.mk (blk_grown (g := gb135) (o := .cells #[.bool true, .int .i64 t132, .int .u64 t133] 27 (0, 0)) (by (with_reducible repeat (first | refine blk_drewN ?_ _ | refine blk_drew ?_ | refine blk_alloc ?_ _)); refine blk_far ?_ NB135_125.out _; (with_reducible repeat (first | refine blk_drewN ?_ _ | refine blk_drew ?_ | refine blk_alloc ?_ _)); refine blk_far ?_ NB135_125.out _; (with_reducible repeat (first | refine blk_drewN ?_ _ | refine blk_drew ?_ | refine blk_alloc ?_ _)); refine blk_far ?_ NB135_125.out _; (with_reducible repeat (first | refine blk_drewN ?_ _ | refine blk_drew ?_ | refine blk_alloc ?_ _)); exact BK135.out) hg (Kd.R_ne HO_7.out BK135.out (by decide))); have n2_ := Aside0.mk (hb); have n3_ := Aside0.mk (ho); clear BK125; clear BK135; clear HB; clear HO_7; have BK125 := n0_; have BK135 := n1_; have HB := n2_; have HO138 := n3_; clear n0_ n1_ n2_ n3_; clear ho hb hg hat; have hcz52_0 : w51.cell? ⟨gb125, 0, none⟩ = some (.bool true) := (blk_cell BK125.out 0).trans rfl; have hcz52_1 : w51.cell? ⟨gb125, 1, none⟩ = some (.int .i64 t132) := (blk_cell BK125.out 1).trans rfl; have hcz52_2 : w51.cell? ⟨gb125, 2, none⟩ = some (.int .u64 t133) := (blk_cell BK125.out 2).trans rfl; have hfz52_0 := blk_frozen BK125.out 0; have hfz52_1 := blk_frozen BK125.out 1; have hfz52_2 := blk_frozen BK125.out 2))
                                            go_ret
                                            exact ⟨by first | rfl | (simp [errW_none, errW_some] <;> rfl) | (simp only [← hji14, ← hji38]; first | rfl | (simp [errW_none, errW_some] <;> rfl)) | (simp [*, errW_none, errW_some] <;> rfl), by repeat (first | (with_reducible first | exact HB.out | apply below_alloc | apply pw_below_drewN | apply below_drew1 | refine below_set ?_ GE125.out | refine below_set ?_ GE135.out) | exact HB.out)⟩
                                        · rw [if_neg c41] at H
                                          have c41b0 : (t132 == (ji38)) = false := beq_eq_false_iff_ne.mpr c41
                                          have c41b1 : (t132 != (ji38)) = true := bne_iff_ne.mpr c41
                                          obtain rfl := Option.some.inj H
                                          have hnb53 := NB135_125.out
                                          have hnc53 := NB125_135.out
                                          have hcz54_0 : wc.cell? ⟨gb135, 0, none⟩ = some (.bool true) := (blk_cell BK135.out 0).trans rfl
                                          have hcz54_1 : wc.cell? ⟨gb135, 1, none⟩ = some (.int .i64 t132) := (blk_cell BK135.out 1).trans rfl
                                          have hcz54_2 : wc.cell? ⟨gb135, 2, none⟩ = some (.int .u64 t133) := (blk_cell BK135.out 2).trans rfl
                                          have hfz54_0 := blk_frozen BK135.out 0
                                          have hfz54_1 := blk_frozen BK135.out 1
                                          have hfz54_2 := blk_frozen BK135.out 2
                                          have hcz55_0 : wc.cell? ⟨gb125, 0, none⟩ = some (.bool x126000_1) := (blk_cell BK125.out 0).trans rfl
                                          have hcz55_1 : wc.cell? ⟨gb125, 1, none⟩ = some (.int .i64 x126001_1) := (blk_cell BK125.out 1).trans rfl
                                          have hcz55_2 : wc.cell? ⟨gb125, 2, none⟩ = some (.int .u64 x126002_1) := (blk_cell BK125.out 2).trans rfl
                                          have hfz55_0 := blk_frozen BK125.out 0
                                          have hfz55_1 := blk_frozen BK125.out 1
                                          have hfz55_2 := blk_frozen BK125.out 2
                                          go_wp2_with (first | ((with_reducible refine gate_builtin (b := .append) (xs := #[.tmp 80, .tmp 82]) rfl ?_); at_builtin; refine Kd.R_append (Kd.int .i64) (w0 := w) w.heap.size rfl (.tmp 80) (.tmp 82) 28 3 (.int .i64 0) 8 rfl Try.underlying28 info3 rfl (by decide) (by omega) (.slice Ao24 x7_1.length co24) x7_1 ji14 [.int .i64 ji14] (fun _ => True) (fun _ => False) rfl (by first | (go_simp; done) | (go_simp; rfl)) ?aP (fun _ hk => hk.elim) ?aF ?aO ?aB ?aS ?aL ?_; (case aP => exact rfl); (case aB => exact (by repeat (first | (with_reducible first | exact HB.out | apply below_alloc | apply pw_below_drewN | apply below_drew1 | refine below_set ?_ GE125.out | refine below_set ?_ GE135.out) | exact HB.out))); (case aF => exact (fun _ _ => trivial)); (case aO => exact (by (with_reducible repeat (first | apply Kd.R_alloc | apply Kd.R_drewN | apply Kd.R_drew)); exact Kd.R_mono (Kd.R_far (p := ⟨gb125, 2, none⟩) (Kd.R_far (p := ⟨gb125, 1, none⟩) (Kd.R_far (p := ⟨gb125, 0, none⟩) (Kd.R_types HO_7.out BK125.out (by decide)) (fun _ hk => hk.2) (.bool true)) (fun _ hk => hk.2) (.int .i64 t132)) (fun _ hk => hk.2) (.int .u64 t133)) (fun _ hk => trivial))); (case aS => exact (below_size (by repeat (first | (with_reducible first | exact HB.out | apply below_alloc | apply pw_below_drewN | apply below_drew1 | refine below_set ?_ GE125.out | refine below_set ?_ GE135.out) | exact HB.out)))); (case aL => have := LMc37.out; omega); intro v137 w56 ho hb hg hat; rw [← Ny136.out] at ho; have n0_ := Aside0.mk (blk_grown (g := gb125) (o := .cells #[.bool true, .int .i64 t132, .int .u64 t133] 27 (0, 0)) (by (with_reducible repeat (first | refine blk_drewN ?_ _ | refine blk_drew ?_ | refine blk_alloc ?_ _)); refine blk_put (cs := #[.bool true, .int .i64 t132, .int .u64 x126002_1]) ?_ 2 _ rfl; (with_reducible repeat (first | refine blk_drewN ?_ _ | refine blk_drew ?_ | refine blk_alloc ?_ _)); refine blk_put (cs := #[.bool true, .int .i64 x126001_1, .int .u64 x126002_1]) ?_ 1 _ rfl; (with_reducible repeat (first | refine blk_drewN ?_ _ | refine blk_drew ?_ | refine blk_alloc ?_ _)); refine blk_put (cs := #[.bool x126000_1, .int .i64 x126001_1, .int .u64 x126002_1]) ?_ 0 _ rfl; (with_reducible repeat (first | refine blk_drewN ?_ _ | refine blk_drew ?_ | refine blk_alloc ?_ _)); exact BK125.out) hg (Kd.R_ne HO_7.out BK125.out (by decide))); have n1_ := Aside0.mk (blk_grown (g := gb135) (o := .cells #[.bool true, .int .i64 t132, .int .u64 t133] 27 (0, 0)) (by (with_reducible repeat (first | refine blk_drewN ?_ _ | refine blk_drew ?_ | refine blk_alloc ?_ _)); refine blk_far ?_ NB135_125.out _; (with_reducible repeat (first | refine blk_drewN ?_ _ | refine blk_drew ?_ | refine blk_alloc ?_ _)); refine blk_far ?_ NB135_125.out _; (with_reducible repeat (first | refine blk_drewN ?_ _ | refine blk_drew ?_ | refine blk_alloc ?_ _)); refine blk_far ?_ NB135_125.out _; (with_reducible repeat (first | refine blk_drewN ?_ _ | refine blk_drew ?_ | refine blk_alloc ?_ _)); exact BK135.out) hg (Kd.R_ne HO_7.out BK135.out (by decide))); have n2_ := Aside0.mk (hb); have n3_ := Aside0.mk (ho); clear BK125; clear BK135; clear HB; clear HO_7; have BK125 := n0_; have BK135 := n1_; have HB := n2_; have HO138 := n3_; clear n0_ n1_ n2_ n3_; clear ho hb hg hat; have hcz57_0 : w56.cell? ⟨gb125, 0, none⟩ = some (.bool true) := (blk_cell BK125.out 0).trans rfl; have hcz57_1 : w56.cell? ⟨gb125, 1, none⟩ = some (.int .i64 t132) := (blk_cell BK125.out 1).trans rfl; have hcz57_2 : w56.cell? ⟨gb125, 2, none⟩ = some (.int .u64 t133) := (blk_cell BK125.out 2).trans rfl; have hfz57_0 := blk_frozen BK125.out 0; have hfz57_1 := blk_frozen BK125.out 1; have hfz57_2 := blk_frozen BK125.out 2))
                                          go_ret
                                          exact ⟨by first | rfl | (simp [errW_none, errW_some] <;> rfl) | (simp only [← hji14, ← hji38]; first | rfl | (simp [errW_none, errW_some] <;> rfl)) | (simp [*, errW_none, errW_some] <;> rfl), by repeat (first | (with_reducible first | exact HB.out | apply below_alloc | apply pw_below_drewN | apply below_drew1 | refine below_set ?_ GE125.out | refine below_set ?_ GE135.out) | exact HB.out)⟩
                                      · replace c40 := Bool.eq_false_iff.mpr c40
                                        subst c40
                                        have H1 : (some false) = some r := by rw [if_neg (show ¬ (false = true) by decide)] at H; exact H
                                        clear H
                                        have H := H1
                                        clear H1
                                        obtain rfl := Option.some.inj H
                                        have hnb58 := NB135_125.out
                                        have hnc58 := NB125_135.out
                                        have hcz59_0 : wc.cell? ⟨gb135, 0, none⟩ = some (.bool false) := (blk_cell BK135.out 0).trans rfl
                                        have hcz59_1 : wc.cell? ⟨gb135, 1, none⟩ = some (.int .i64 t132) := (blk_cell BK135.out 1).trans rfl
                                        have hcz59_2 : wc.cell? ⟨gb135, 2, none⟩ = some (.int .u64 t133) := (blk_cell BK135.out 2).trans rfl
                                        have hfz59_0 := blk_frozen BK135.out 0
                                        have hfz59_1 := blk_frozen BK135.out 1
                                        have hfz59_2 := blk_frozen BK135.out 2
                                        have hcz60_0 : wc.cell? ⟨gb125, 0, none⟩ = some (.bool x126000_1) := (blk_cell BK125.out 0).trans rfl
                                        have hcz60_1 : wc.cell? ⟨gb125, 1, none⟩ = some (.int .i64 x126001_1) := (blk_cell BK125.out 1).trans rfl
                                        have hcz60_2 : wc.cell? ⟨gb125, 2, none⟩ = some (.int .u64 x126002_1) := (blk_cell BK125.out 2).trans rfl
                                        have hfz60_0 := blk_frozen BK125.out 0
                                        have hfz60_1 := blk_frozen BK125.out 1
                                        have hfz60_2 := blk_frozen BK125.out 2
                                        go_wp2_with (first | ((with_reducible refine gate_builtin (b := .append) (xs := #[.tmp 80, .tmp 82]) rfl ?_); at_builtin; refine Kd.R_append (Kd.int .i64) (w0 := w) w.heap.size rfl (.tmp 80) (.tmp 82) 28 3 (.int .i64 0) 8 rfl Try.underlying28 info3 rfl (by decide) (by omega) (.slice Ao24 x7_1.length co24) x7_1 ji14 [.int .i64 ji14] (fun _ => True) (fun _ => False) rfl (by first | (go_simp; done) | (go_simp; rfl)) ?aP (fun _ hk => hk.elim) ?aF ?aO ?aB ?aS ?aL ?_; (case aP => exact rfl); (case aB => exact (by repeat (first | (with_reducible first | exact HB.out | apply below_alloc | apply pw_below_drewN | apply below_drew1 | refine below_set ?_ GE125.out | refine below_set ?_ GE135.out) | exact HB.out))); (case aF => exact (fun _ _ => trivial)); (case aO => exact (by (with_reducible repeat (first | apply Kd.R_alloc | apply Kd.R_drewN | apply Kd.R_drew)); exact Kd.R_mono (Kd.R_far (p := ⟨gb125, 2, none⟩) (Kd.R_far (p := ⟨gb125, 1, none⟩) (Kd.R_far (p := ⟨gb125, 0, none⟩) (Kd.R_types HO_7.out BK125.out (by decide)) (fun _ hk => hk.2) (.bool false)) (fun _ hk => hk.2) (.int .i64 t132)) (fun _ hk => hk.2) (.int .u64 t133)) (fun _ hk => trivial))); (case aS => exact (below_size (by repeat (first | (with_reducible first | exact HB.out | apply below_alloc | apply pw_below_drewN | apply below_drew1 | refine below_set ?_ GE125.out | refine below_set ?_ GE135.out) | exact HB.out)))); (case aL => have := LMc37.out; omega); intro v137 w61 ho hb hg hat; rw [← Ny136.out] at ho; have n0_ := Aside0.mk (blk_grown (g := gb125) (o := .cells #[.bool false, .int .i64 t132, .int .u64 t133] 27 (0, 0)) (by (with_reducible repeat (first | refine blk_drewN ?_ _ | refine blk_drew ?_ | refine blk_alloc ?_ _)); refine blk_put (cs := #[.bool false, .int .i64 t132, .int .u64 x126002_1]) ?_ 2 _ rfl; (with_reducible repeat (first | refine blk_drewN ?_ _ | refine blk_drew ?_ | refine blk_alloc ?_ _)); refine blk_put (cs := #[.bool false, .int .i64 x126001_1, .int .u64 x126002_1]) ?_ 1 _ rfl; (with_reducible repeat (first | refine blk_drewN ?_ _ | refine blk_drew ?_ | refine blk_alloc ?_ _)); refine blk_put (cs := #[.bool x126000_1, .int .i64 x126001_1, .int .u64 x126002_1]) ?_ 0 _ rfl; (with_reducible repeat (first | refine blk_drewN ?_ _ | refine blk_drew ?_ | refine blk_alloc ?_ _)); exact BK125.out) hg (Kd.R_ne HO_7.out BK125.out (by decide))); have n1_ := Aside0.mk (blk_grown (g := gb135) (o := .cells #[.bool false, .int .i64 t132, .int .u64 t133] 27 (0, 0)) (by (with_reducible repeat (first | refine blk_drewN ?_ _ | refine blk_drew ?_ | refine blk_alloc ?_ _)); refine blk_far ?_ NB135_125.out _; (with_reducible repeat (first | refine blk_drewN ?_ _ | refine blk_drew ?_ | refine blk_alloc ?_ _)); refine blk_far ?_ NB135_125.out _; (with_reducible repeat (first | refine blk_drewN ?_ _ | refine blk_drew ?_ | refine blk_alloc ?_ _)); refine blk_far ?_ NB135_125.out _; (with_reducible repeat (first | refine blk_drewN ?_ _ | refine blk_drew ?_ | refine blk_alloc ?_ _)); exact BK135.out) hg (Kd.R_ne HO_7.out BK135.out (by decide))); have n2_ := Aside0.mk (hb); have n3_ := Aside0.mk (ho); clear BK125; clear BK135; clear HB; clear HO_7; have BK125 := n0_; have BK135 := n1_; have HB := n2_; have HO138 := n3_; clear n0_ n1_ n2_ n3_; clear ho hb hg hat; have hcz62_0 : w61.cell? ⟨gb125, 0, none⟩ = some (.bool false) := (blk_cell BK125.out 0).trans rfl; have hcz62_1 : w61.cell? ⟨gb125, 1, none⟩ = some (.int .i64 t132) := (blk_cell BK125.out 1).trans rfl; have hcz62_2 : w61.cell? ⟨gb125, 2, none⟩ = some (.int .u64 t133) := (blk_cell BK125.out 2).trans rfl; have hfz62_0 := blk_frozen BK125.out 0; have hfz62_1 := blk_frozen BK125.out 1; have hfz62_2 := blk_frozen BK125.out 2))
                                        go_ret
                                        exact ⟨by first | rfl | (simp [errW_none, errW_some] <;> rfl) | (simp only [← hji14, ← hji38]; first | rfl | (simp [errW_none, errW_some] <;> rfl)) | (simp [*, errW_none, errW_some] <;> rfl), by repeat (first | (with_reducible first | exact HB.out | apply below_alloc | apply pw_below_drewN | apply below_drew1 | refine below_set ?_ GE125.out | refine below_set ?_ GE135.out) | exact HB.out)⟩
                                    · rw [if_neg c39] at H
                                      have c39b0 : decide (0 ≤ (ji38)) = false := decide_eq_false c39
                                      clear c39
                                      have H' := Aside0.mk H
                                      clear H
                                      have hnb63 := NB135_125.out
                                      have hnc63 := NB125_135.out
                                      have hcz64_0 : wc.cell? ⟨gb135, 0, none⟩ = some (.bool t131) := (blk_cell BK135.out 0).trans rfl
                                      have hcz64_1 : wc.cell? ⟨gb135, 1, none⟩ = some (.int .i64 t132) := (blk_cell BK135.out 1).trans rfl
                                      have hcz64_2 : wc.cell? ⟨gb135, 2, none⟩ = some (.int .u64 t133) := (blk_cell BK135.out 2).trans rfl
                                      have hfz64_0 := blk_frozen BK135.out 0
                                      have hfz64_1 := blk_frozen BK135.out 1
                                      have hfz64_2 := blk_frozen BK135.out 2
                                      have hcz65_0 : wc.cell? ⟨gb125, 0, none⟩ = some (.bool x126000_1) := (blk_cell BK125.out 0).trans rfl
                                      have hcz65_1 : wc.cell? ⟨gb125, 1, none⟩ = some (.int .i64 x126001_1) := (blk_cell BK125.out 1).trans rfl
                                      have hcz65_2 : wc.cell? ⟨gb125, 2, none⟩ = some (.int .u64 x126002_1) := (blk_cell BK125.out 2).trans rfl
                                      have hfz65_0 := blk_frozen BK125.out 0
                                      have hfz65_1 := blk_frozen BK125.out 1
                                      have hfz65_2 := blk_frozen BK125.out 2
                                      go_wp2_with (first | ((with_reducible refine gate_builtin (b := .append) (xs := #[.tmp 80, .tmp 82]) rfl ?_); at_builtin; refine Kd.R_append (Kd.int .i64) (w0 := w) w.heap.size rfl (.tmp 80) (.tmp 82) 28 3 (.int .i64 0) 8 rfl Try.underlying28 info3 rfl (by decide) (by omega) (.slice Ao24 x7_1.length co24) x7_1 ji14 [.int .i64 ji14] (fun _ => True) (fun _ => False) rfl (by first | (go_simp; done) | (go_simp; rfl)) ?aP (fun _ hk => hk.elim) ?aF ?aO ?aB ?aS ?aL ?_; (case aP => exact rfl); (case aB => exact (by repeat (first | (with_reducible first | exact HB.out | apply below_alloc | apply pw_below_drewN | apply below_drew1 | refine below_set ?_ GE125.out | refine below_set ?_ GE135.out) | exact HB.out))); (case aF => exact (fun _ _ => trivial)); (case aO => exact (by (with_reducible repeat (first | apply Kd.R_alloc | apply Kd.R_drewN | apply Kd.R_drew)); exact Kd.R_mono (Kd.R_far (p := ⟨gb125, 2, none⟩) (Kd.R_far (p := ⟨gb125, 1, none⟩) (Kd.R_far (p := ⟨gb125, 0, none⟩) (Kd.R_types HO_7.out BK125.out (by decide)) (fun _ hk => hk.2) (.bool t131)) (fun _ hk => hk.2) (.int .i64 t132)) (fun _ hk => hk.2) (.int .u64 t133)) (fun _ hk => trivial))); (case aS => exact (below_size (by repeat (first | (with_reducible first | exact HB.out | apply below_alloc | apply pw_below_drewN | apply below_drew1 | refine below_set ?_ GE125.out | refine below_set ?_ GE135.out) | exact HB.out)))); (case aL => have := LMc37.out; omega); intro v137 w66 ho hb hg hat; rw [← Ny136.out] at ho; have n0_ := Aside0.mk (blk_grown (g := gb125) (o := .cells #[.bool t131, .int .i64 t132, .int .u64 t133] 27 (0, 0)) (by (with_reducible repeat (first | refine blk_drewN ?_ _ | refine blk_drew ?_ | refine blk_alloc ?_ _)); refine blk_put (cs := #[.bool t131, .int .i64 t132, .int .u64 x126002_1]) ?_ 2 _ rfl; (with_reducible repeat (first | refine blk_drewN ?_ _ | refine blk_drew ?_ | refine blk_alloc ?_ _)); refine blk_put (cs := #[.bool t131, .int .i64 x126001_1, .int .u64 x126002_1]) ?_ 1 _ rfl; (with_reducible repeat (first | refine blk_drewN ?_ _ | refine blk_drew ?_ | refine blk_alloc ?_ _)); refine blk_put (cs := #[.bool x126000_1, .int .i64 x126001_1, .int .u64 x126002_1]) ?_ 0 _ rfl; (with_reducible repeat (first | refine blk_drewN ?_ _ | refine blk_drew ?_ | refine blk_alloc ?_ _)); exact BK125.out) hg (Kd.R_ne HO_7.out BK125.out (by decide))); have n1_ := Aside0.mk (blk_grown (g := gb135) (o := .cells #[.bool t131, .int .i64 t132, .int .u64 t133] 27 (0, 0)) (by (with_reducible repeat (first | refine blk_drewN ?_ _ | refine blk_drew ?_ | refine blk_alloc ?_ _)); refine blk_far ?_ NB135_125.out _; (with_reducible repeat (first | refine blk_drewN ?_ _ | refine blk_drew ?_ | refine blk_alloc ?_ _)); refine blk_far ?_ NB135_125.out _; (with_reducible repeat (first | refine blk_drewN ?_ _ | refine blk_drew ?_ | refine blk_alloc ?_ _)); refine blk_far ?_ NB135_125.out _; (with_reducible repeat (first | refine blk_drewN ?_ _ | refine blk_drew ?_ | refine blk_alloc ?_ _)); exact BK135.out) hg (Kd.R_ne HO_7.out BK135.out (by decide))); have n2_ := Aside0.mk (hb); have n3_ := Aside0.mk (ho); clear BK125; clear BK135; clear HB; clear HO_7; have BK125 := n0_; have BK135 := n1_; have HB := n2_; have HO138 := n3_; clear n0_ n1_ n2_ n3_; clear ho hb hg hat))
                                      go_roundg kj22
                                      case measure => have := HK1.out; have := HJ8.out; have := HJ14.out; have := HK4.out; have := HJ22.out; omega
                                      case rel => exact ⟨(y136), (ji38), (wrap64 (x9_1 + 1)), (t131), (t132), (t133), (by first | rfl | (simp; done) | (simp only [← hji38] <;> (first | rfl | simp)) | (simp [*]; done)), (by first | rfl | (simp; done) | (simp [*]; done)), H', ⟨by have := HK1.out; have := HJ8.out; have := HJ14.out; have := HK4.out; have := HJ22.out; omega⟩, ⟨by (with_reducible repeat (first | apply Kd.R_alloc | apply Kd.R_drewN | apply Kd.R_drew)); exact HO138.out⟩, ⟨by (with_reducible repeat (first | refine blk_drewN ?_ _ | refine blk_drew ?_ | refine blk_alloc ?_ _)); exact BK125.out⟩, ⟨by repeat (first | (with_reducible first | exact HB.out | apply below_alloc | apply pw_below_drewN | apply below_drew1 | refine below_set ?_ GE125.out | refine below_set ?_ GE135.out) | exact HB.out)⟩⟩
                                  · rw [if_neg c37] at H
                                    exact absurd H (by simp)
                                · replace c36 := Bool.eq_false_iff.mpr c36
                                  subst c36
                                  have H1 : (if x8_1 ≥ 0 then (if t131 = true then (if t132 = x8_1 then (if (Go.bits .and .u64 t133 1) = 1 then (sidesticklaw10_WindowOnce.l0 kj22 l0 a1 t124 x7_1 x8_1 (wrap64 (x9_1 + 1)) t131 t132 t133) else (some false)) else (some false)) else (some false)) else (sidesticklaw10_WindowOnce.l0 kj22 l0 a1 t124 x7_1 x8_1 (wrap64 (x9_1 + 1)) t131 t132 t133)) = some r := by rw [if_neg (show ¬ (false = true) by decide)] at H; exact H
                                  clear H
                                  have H := H1
                                  clear H1
                                  by_cases c67 : x8_1 ≥ 0
                                  · rw [if_pos c67] at H
                                    have c67b0 : decide (0 ≤ x8_1) = true := decide_eq_true c67
                                    clear c67
                                    by_cases c68 : t131 = true
                                    · subst c68
                                      have H1 : (if t132 = x8_1 then (if (Go.bits .and .u64 t133 1) = 1 then (sidesticklaw10_WindowOnce.l0 kj22 l0 a1 t124 x7_1 x8_1 (wrap64 (x9_1 + 1)) true t132 t133) else (some false)) else (some false)) = some r := by rw [if_pos rfl] at H; exact H
                                      clear H
                                      have H := H1
                                      clear H1
                                      by_cases c69 : t132 = x8_1
                                      · rw [if_pos c69] at H
                                        have c69b0 : (t132 == x8_1) = true := beq_iff_eq.mpr c69
                                        have c69b1 : (t132 != x8_1) = false := bne_eq_false_iff_eq.mpr c69
                                        clear c69
                                        by_cases c70 : (Go.bits .and .u64 t133 1) = 1
                                        · rw [if_pos c70] at H
                                          have c70b0 : ((Go.bits .and .u64 t133 1) == 1) = true := beq_iff_eq.mpr c70
                                          have c70b1 : ((Go.bits .and .u64 t133 1) != 1) = false := bne_eq_false_iff_eq.mpr c70
                                          clear c70
                                          have H' := Aside0.mk H
                                          clear H
                                          have hnb71 := NB135_125.out
                                          have hnc71 := NB125_135.out
                                          have hcz72_0 : wc.cell? ⟨gb135, 0, none⟩ = some (.bool true) := (blk_cell BK135.out 0).trans rfl
                                          have hcz72_1 : wc.cell? ⟨gb135, 1, none⟩ = some (.int .i64 t132) := (blk_cell BK135.out 1).trans rfl
                                          have hcz72_2 : wc.cell? ⟨gb135, 2, none⟩ = some (.int .u64 t133) := (blk_cell BK135.out 2).trans rfl
                                          have hfz72_0 := blk_frozen BK135.out 0
                                          have hfz72_1 := blk_frozen BK135.out 1
                                          have hfz72_2 := blk_frozen BK135.out 2
                                          have hcz73_0 : wc.cell? ⟨gb125, 0, none⟩ = some (.bool x126000_1) := (blk_cell BK125.out 0).trans rfl
                                          have hcz73_1 : wc.cell? ⟨gb125, 1, none⟩ = some (.int .i64 x126001_1) := (blk_cell BK125.out 1).trans rfl
                                          have hcz73_2 : wc.cell? ⟨gb125, 2, none⟩ = some (.int .u64 x126002_1) := (blk_cell BK125.out 2).trans rfl
                                          have hfz73_0 := blk_frozen BK125.out 0
                                          have hfz73_1 := blk_frozen BK125.out 1
                                          have hfz73_2 := blk_frozen BK125.out 2
                                          go_wp2
                                          go_roundg kj22
                                          case measure => have := HK1.out; have := HJ8.out; have := HJ14.out; have := HK4.out; have := HJ22.out; omega
                                          case rel => exact ⟨(x7_1), (x8_1), (wrap64 (x9_1 + 1)), (true), (t132), (t133), (by first | rfl | (simp; done) | (simp [*]; done)), (by first | rfl | (simp; done) | (simp [*]; done)), H', ⟨by have := HK1.out; have := HJ8.out; have := HJ14.out; have := HK4.out; have := HJ22.out; omega⟩, ⟨by (with_reducible repeat (first | apply Kd.R_alloc | apply Kd.R_drewN | apply Kd.R_drew)); exact Kd.R_mono (Kd.R_far (p := ⟨gb125, 2, none⟩) (Kd.R_far (p := ⟨gb125, 1, none⟩) (Kd.R_far (p := ⟨gb125, 0, none⟩) (Kd.R_types HO_7.out BK125.out (by decide)) (fun _ hk => hk.2) (.bool true)) (fun _ hk => hk.2) (.int .i64 t132)) (fun _ hk => hk.2) (.int .u64 t133)) (fun _ hk => trivial)⟩, ⟨by (with_reducible repeat (first | refine blk_drewN ?_ _ | refine blk_drew ?_ | refine blk_alloc ?_ _)); refine blk_put (cs := #[.bool true, .int .i64 t132, .int .u64 x126002_1]) ?_ 2 _ rfl; (with_reducible repeat (first | refine blk_drewN ?_ _ | refine blk_drew ?_ | refine blk_alloc ?_ _)); refine blk_put (cs := #[.bool true, .int .i64 x126001_1, .int .u64 x126002_1]) ?_ 1 _ rfl; (with_reducible repeat (first | refine blk_drewN ?_ _ | refine blk_drew ?_ | refine blk_alloc ?_ _)); refine blk_put (cs := #[.bool x126000_1, .int .i64 x126001_1, .int .u64 x126002_1]) ?_ 0 _ rfl; (with_reducible repeat (first | refine blk_drewN ?_ _ | refine blk_drew ?_ | refine blk_alloc ?_ _)); exact BK125.out⟩, ⟨by repeat (first | (with_reducible first | exact HB.out | apply below_alloc | apply pw_below_drewN | apply below_drew1 | refine below_set ?_ GE125.out | refine below_set ?_ GE135.out) | exact HB.out)⟩⟩
                                        · rw [if_neg c70] at H
                                          have c70b0 : ((Go.bits .and .u64 t133 1) == 1) = false := beq_eq_false_iff_ne.mpr c70
                                          have c70b1 : ((Go.bits .and .u64 t133 1) != 1) = true := bne_iff_ne.mpr c70
                                          obtain rfl := Option.some.inj H
                                          have hnb74 := NB135_125.out
                                          have hnc74 := NB125_135.out
                                          have hcz75_0 : wc.cell? ⟨gb135, 0, none⟩ = some (.bool true) := (blk_cell BK135.out 0).trans rfl
                                          have hcz75_1 : wc.cell? ⟨gb135, 1, none⟩ = some (.int .i64 t132) := (blk_cell BK135.out 1).trans rfl
                                          have hcz75_2 : wc.cell? ⟨gb135, 2, none⟩ = some (.int .u64 t133) := (blk_cell BK135.out 2).trans rfl
                                          have hfz75_0 := blk_frozen BK135.out 0
                                          have hfz75_1 := blk_frozen BK135.out 1
                                          have hfz75_2 := blk_frozen BK135.out 2
                                          have hcz76_0 : wc.cell? ⟨gb125, 0, none⟩ = some (.bool x126000_1) := (blk_cell BK125.out 0).trans rfl
                                          have hcz76_1 : wc.cell? ⟨gb125, 1, none⟩ = some (.int .i64 x126001_1) := (blk_cell BK125.out 1).trans rfl
                                          have hcz76_2 : wc.cell? ⟨gb125, 2, none⟩ = some (.int .u64 x126002_1) := (blk_cell BK125.out 2).trans rfl
                                          have hfz76_0 := blk_frozen BK125.out 0
                                          have hfz76_1 := blk_frozen BK125.out 1
                                          have hfz76_2 := blk_frozen BK125.out 2
                                          go_wp2
                                          go_ret
                                          exact ⟨by first | rfl | (simp [errW_none, errW_some] <;> rfl) | (simp only [← hji14]; first | rfl | (simp [errW_none, errW_some] <;> rfl)) | (simp [*, errW_none, errW_some] <;> rfl), by repeat (first | (with_reducible first | exact HB.out | apply below_alloc | apply pw_below_drewN | apply below_drew1 | refine below_set ?_ GE125.out | refine below_set ?_ GE135.out) | exact HB.out)⟩
                                      · rw [if_neg c69] at H
                                        have c69b0 : (t132 == x8_1) = false := beq_eq_false_iff_ne.mpr c69
                                        have c69b1 : (t132 != x8_1) = true := bne_iff_ne.mpr c69
                                        obtain rfl := Option.some.inj H
                                        have hnb77 := NB135_125.out
                                        have hnc77 := NB125_135.out
                                        have hcz78_0 : wc.cell? ⟨gb135, 0, none⟩ = some (.bool true) := (blk_cell BK135.out 0).trans rfl
                                        have hcz78_1 : wc.cell? ⟨gb135, 1, none⟩ = some (.int .i64 t132) := (blk_cell BK135.out 1).trans rfl
                                        have hcz78_2 : wc.cell? ⟨gb135, 2, none⟩ = some (.int .u64 t133) := (blk_cell BK135.out 2).trans rfl
                                        have hfz78_0 := blk_frozen BK135.out 0
                                        have hfz78_1 := blk_frozen BK135.out 1
                                        have hfz78_2 := blk_frozen BK135.out 2
                                        have hcz79_0 : wc.cell? ⟨gb125, 0, none⟩ = some (.bool x126000_1) := (blk_cell BK125.out 0).trans rfl
                                        have hcz79_1 : wc.cell? ⟨gb125, 1, none⟩ = some (.int .i64 x126001_1) := (blk_cell BK125.out 1).trans rfl
                                        have hcz79_2 : wc.cell? ⟨gb125, 2, none⟩ = some (.int .u64 x126002_1) := (blk_cell BK125.out 2).trans rfl
                                        have hfz79_0 := blk_frozen BK125.out 0
                                        have hfz79_1 := blk_frozen BK125.out 1
                                        have hfz79_2 := blk_frozen BK125.out 2
                                        go_wp2
                                        go_ret
                                        exact ⟨by first | rfl | (simp [errW_none, errW_some] <;> rfl) | (simp only [← hji14]; first | rfl | (simp [errW_none, errW_some] <;> rfl)) | (simp [*, errW_none, errW_some] <;> rfl), by repeat (first | (with_reducible first | exact HB.out | apply below_alloc | apply pw_below_drewN | apply below_drew1 | refine below_set ?_ GE125.out | refine below_set ?_ GE135.out) | exact HB.out)⟩
                                    · replace c68 := Bool.eq_false_iff.mpr c68
                                      subst c68
                                      have H1 : (some false) = some r := by rw [if_neg (show ¬ (false = true) by decide)] at H; exact H
                                      clear H
                                      have H := H1
                                      clear H1
                                      obtain rfl := Option.some.inj H
                                      have hnb80 := NB135_125.out
                                      have hnc80 := NB125_135.out
                                      have hcz81_0 : wc.cell? ⟨gb135, 0, none⟩ = some (.bool false) := (blk_cell BK135.out 0).trans rfl
                                      have hcz81_1 : wc.cell? ⟨gb135, 1, none⟩ = some (.int .i64 t132) := (blk_cell BK135.out 1).trans rfl
                                      have hcz81_2 : wc.cell? ⟨gb135, 2, none⟩ = some (.int .u64 t133) := (blk_cell BK135.out 2).trans rfl
                                      have hfz81_0 := blk_frozen BK135.out 0
                                      have hfz81_1 := blk_frozen BK135.out 1
                                      have hfz81_2 := blk_frozen BK135.out 2
                                      have hcz82_0 : wc.cell? ⟨gb125, 0, none⟩ = some (.bool x126000_1) := (blk_cell BK125.out 0).trans rfl
                                      have hcz82_1 : wc.cell? ⟨gb125, 1, none⟩ = some (.int .i64 x126001_1) := (blk_cell BK125.out 1).trans rfl
                                      have hcz82_2 : wc.cell? ⟨gb125, 2, none⟩ = some (.int .u64 x126002_1) := (blk_cell BK125.out 2).trans rfl
                                      have hfz82_0 := blk_frozen BK125.out 0
                                      have hfz82_1 := blk_frozen BK125.out 1
                                      have hfz82_2 := blk_frozen BK125.out 2
                                      go_wp2
                                      go_ret
                                      exact ⟨by first | rfl | (simp [errW_none, errW_some] <;> rfl) | (simp only [← hji14]; first | rfl | (simp [errW_none, errW_some] <;> rfl)) | (simp [*, errW_none, errW_some] <;> rfl), by repeat (first | (with_reducible first | exact HB.out | apply below_alloc | apply pw_below_drewN | apply below_drew1 | refine below_set ?_ GE125.out | refine below_set ?_ GE135.out) | exact HB.out)⟩
                                  · rw [if_neg c67] at H
                                    have c67b0 : decide (0 ≤ x8_1) = false := decide_eq_false c67
                                    clear c67
                                    have H' := Aside0.mk H
                                    clear H
                                    have hnb83 := NB135_125.out
                                    have hnc83 := NB125_135.out
                                    have hcz84_0 : wc.cell? ⟨gb135, 0, none⟩ = some (.bool t131) := (blk_cell BK135.out 0).trans rfl
                                    have hcz84_1 : wc.cell? ⟨gb135, 1, none⟩ = some (.int .i64 t132) := (blk_cell BK135.out 1).trans rfl
                                    have hcz84_2 : wc.cell? ⟨gb135, 2, none⟩ = some (.int .u64 t133) := (blk_cell BK135.out 2).trans rfl
                                    have hfz84_0 := blk_frozen BK135.out 0
                                    have hfz84_1 := blk_frozen BK135.out 1
                                    have hfz84_2 := blk_frozen BK135.out 2
                                    have hcz85_0 : wc.cell? ⟨gb125, 0, none⟩ = some (.bool x126000_1) := (blk_cell BK125.out 0).trans rfl
                                    have hcz85_1 : wc.cell? ⟨gb125, 1, none⟩ = some (.int .i64 x126001_1) := (blk_cell BK125.out 1).trans rfl
                                    have hcz85_2 : wc.cell? ⟨gb125, 2, none⟩ = some (.int .u64 x126002_1) := (blk_cell BK125.out 2).trans rfl
                                    have hfz85_0 := blk_frozen BK125.out 0
                                    have hfz85_1 := blk_frozen BK125.out 1
                                    have hfz85_2 := blk_frozen BK125.out 2
                                    go_wp2
                                    go_roundg kj22
                                    case measure => have := HK1.out; have := HJ8.out; have := HJ14.out; have := HK4.out; have := HJ22.out; omega
                                    case rel => exact ⟨(x7_1), (x8_1), (wrap64 (x9_1 + 1)), (t131), (t132), (t133), (by first | rfl | (simp; done) | (simp [*]; done)), (by first | rfl | (simp; done) | (simp [*]; done)), H', ⟨by have := HK1.out; have := HJ8.out; have := HJ14.out; have := HK4.out; have := HJ22.out; omega⟩, ⟨by (with_reducible repeat (first | apply Kd.R_alloc | apply Kd.R_drewN | apply Kd.R_drew)); exact Kd.R_mono (Kd.R_far (p := ⟨gb125, 2, none⟩) (Kd.R_far (p := ⟨gb125, 1, none⟩) (Kd.R_far (p := ⟨gb125, 0, none⟩) (Kd.R_types HO_7.out BK125.out (by decide)) (fun _ hk => hk.2) (.bool t131)) (fun _ hk => hk.2) (.int .i64 t132)) (fun _ hk => hk.2) (.int .u64 t133)) (fun _ hk => trivial)⟩, ⟨by (with_reducible repeat (first | refine blk_drewN ?_ _ | refine blk_drew ?_ | refine blk_alloc ?_ _)); refine blk_put (cs := #[.bool t131, .int .i64 t132, .int .u64 x126002_1]) ?_ 2 _ rfl; (with_reducible repeat (first | refine blk_drewN ?_ _ | refine blk_drew ?_ | refine blk_alloc ?_ _)); refine blk_put (cs := #[.bool t131, .int .i64 x126001_1, .int .u64 x126002_1]) ?_ 1 _ rfl; (with_reducible repeat (first | refine blk_drewN ?_ _ | refine blk_drew ?_ | refine blk_alloc ?_ _)); refine blk_put (cs := #[.bool x126000_1, .int .i64 x126001_1, .int .u64 x126002_1]) ?_ 0 _ rfl; (with_reducible repeat (first | refine blk_drewN ?_ _ | refine blk_drew ?_ | refine blk_alloc ?_ _)); exact BK125.out⟩, ⟨by repeat (first | (with_reducible first | exact HB.out | apply below_alloc | apply pw_below_drewN | apply below_drew1 | refine below_set ?_ GE125.out | refine below_set ?_ GE135.out) | exact HB.out)⟩⟩
              · rw [if_neg c13] at H
                exact absurd H (by simp)
            · rw [if_neg c12] at H
              exact absurd H (by simp)
          · replace c11 := Bool.eq_false_iff.mpr c11
            subst c11
            have H1 : (some t124) = some r := by rw [if_neg (show ¬ (false = true) by decide)] at H; exact H
            clear H
            have H := H1
            clear H1
            obtain rfl := Option.some.inj H
            go_wp2
            go_ret
            exact ⟨by first | rfl | (simp [errW_none, errW_some] <;> rfl) | (simp [*, errW_none, errW_some] <;> rfl), by repeat (first | (with_reducible first | exact HB.out | apply below_alloc | apply pw_below_drewN | apply below_drew1 | refine below_set ?_ GE125.out) | exact HB.out)⟩

/-- THE ONE PURE STATEMENT of sidesticklaw10_WindowOnce: yours. -/
def sidesticklaw10_WindowOnce.Pure : Prop := ∀ (l0 : List Int) (a1 : Int), l0.length ≤ maxLen → l0.length * 2 ≤ 140737488351232 → (∀ x ∈ l0, (Lit.int .u16 x).wf = true) → (Lit.int .u32 a1).wf = true → ∃ k, sidesticklaw10_WindowOnce.f k l0 a1 = some true
theorem sidesticklaw10_WindowOnce.walk (P : sidesticklaw10_WindowOnce.Pure) (a0 : Option Addr) (len0 cap0 : Nat) (z0 : List Int) (a1 : Int) (w : World) (w0 : (a0 = none ∧ len0 = 0 ∧ cap0 = 0 ∧ z0 = []) ∨ ∃ x, a0 = some x ∧ len0 ≤ cap0 ∧ cap0 ≤ maxLen ∧ z0.length = cap0 ∧ (∀ i, i < z0.length → w.cell? (x.add i) = some (.int .u16 (z0.getD i 0))) ∧ ∀ n ∈ z0, (Lit.int .u16 n).wf = true) (y0 : len0 * 2 ≤ 140737488351232) (w1 : (Lit.int .u32 a1).wf = true) :
    Calls Try.prog 3 #[.slice a0 len0 cap0, .int .u32 a1] w fun e w' => e = .returned (.bool true) ∧ Below w.heap.size w w' := by
  obtain ⟨l0, rfl, hr0, hm0, hw0, hc0⟩ := ReadsInt.ofRowC w0
  obtain ⟨k, h⟩ := P l0 a1 hm0 y0 hw0 w1
  refine (sidesticklaw10_WindowOnce.calls k _ _ l0 a1 true w (Kd.C_of_reads (d := (0 : Int)) (h1 := fun _ => rfl) hr0) hc0 h).mono ?_
  rintro e w' ⟨rfl, hd⟩
  exact ⟨rfl, hd⟩

end Go.Proofs.Ytnbmjpcnjjpcpaa.PWindowOnce
