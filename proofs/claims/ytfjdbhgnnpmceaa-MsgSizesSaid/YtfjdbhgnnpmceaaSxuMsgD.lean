/-
  Walks by Sx; no condition beyond those that stand in each statement.
-/
import Derived.Test.YtfjdbhgnnpmceaaSxuMsgC
namespace Go.Proofs
open Go Go.Sx
set_option maxRecDepth 100000
attribute [local simp] xm
variable (T : TyOk Try.prog (tyOf Try.prog Try.eqs)) (hm : Try.prog.follows .mixedOrders = true)
theorem cellsAt_at (L M : Heap) (k : Nat) : cellsAt (L ++ M) (L.length + k) = cellsAt M k := by simp [cellsAt_eq]
theorem FR.mono' {h h' : Heap} {mi ni : Nat} {cs : List Value} {fs : List Fs} (g : ∀ b n u, hget h b = some (.cells [.int .i64 n] true u) → hget h' b = hget h b) (hr : FR h mi ni cs fs) : FR h' mi ni cs fs := by
  intro j f hj
  obtain ⟨h1, b, h2, h3⟩ := hr j f hj
  exact ⟨h1, b, h2, fun q => let ⟨u, a, c⟩ := h3 q; ⟨u, by rw [g _ _ _ a]; exact a, c⟩⟩
def xs4 (i : Nat) : List Fs := (List.range i).map fun j => xF (8 + j)
theorem xs4_succ (i : Nat) : xs4 (i + 1) = xs4 i ++ [xF (8 + i)] := by simp [xs4, List.range_succ]
include T hm
set_option maxHeartbeats 4000000 in
theorem fields_fn (kd : Int) (A : List Value) (mi ni ua : Nat) (H : Heap) (hA : hget H mi = some (.cells A true ua)) (hk : A[0]? = some (.int .i64 kd)) (hni : ni < H.length) :
    Sx.Fn Try.prog 39 [.pointer (some ⟨mi, 0, none⟩), .pointer (some ⟨ni, 0, none⟩)] H fun r h => ∃ L, h = H ++ L ∧
      match msgFs kd with
      | some fs => ∃ p c cs, r = .tuple #[.slice (some ⟨H.length + p, 0, none⟩) fs.length c, .bool true] ∧ cellsAt L p = some cs ∧ FR (H ++ L) mi ni cs fs
      | none => r = .tuple #[.slice none 0 0, .bool false] := by
  refine fn_w T xm Try.func39 rfl (by kernel_rfl) Try.results39 Try.ntmps39 (by simp) fun R hR => ?_
  have hml := hget_lt hA
  simp
  refine cw_drawl T hm xm [0, 1, 6, 7] (.soft 0 false <| .soft 1 true <| .soft 2 false <| .soft 4 false <| .soft 5 true <| .soft 6 false <| .alt 3 true (.alt 7 true (.alt 8 true (.alt 9 true (.alt 10 true (.alt 11 false (.stop) (.stop)) (.stop)) (.stop)) (.alt 9 true (.alt 8 true (.alt 10 true (.alt 11 false (.stop) (.stop)) (.stop)) (.stop)) (.stop))) (.alt 8 true (.alt 7 true (.alt 9 true (.alt 10 true (.alt 11 false (.stop) (.stop)) (.stop)) (.stop)) (.alt 9 true (.alt 7 true (.alt 10 true (.alt 11 false (.stop) (.stop)) (.stop)) (.stop)) (.stop))) (.alt 9 true (.alt 7 true (.alt 8 true (.alt 10 true (.alt 11 false (.stop) (.stop)) (.stop)) (.stop)) (.alt 8 true (.alt 7 true (.alt 10 true (.alt 11 false (.stop) (.stop)) (.stop)) (.stop)) (.stop))) (.stop)))) (.alt 8 true (.alt 3 true (.alt 7 true (.alt 9 true (.alt 10 true (.alt 11 false (.stop) (.stop)) (.stop)) (.stop)) (.alt 9 true (.alt 7 true (.alt 10 true (.alt 11 false (.stop) (.stop)) (.stop)) (.stop)) (.stop))) (.alt 9 true (.alt 3 true (.alt 7 true (.alt 10 true (.alt 11 false (.stop) (.stop)) (.stop)) (.stop)) (.stop)) (.stop))) (.alt 9 true (.alt 3 true (.alt 7 true (.alt 8 true (.alt 10 true (.alt 11 false (.stop) (.stop)) (.stop)) (.stop)) (.alt 8 true (.alt 7 true (.alt 10 true (.alt 11 false (.stop) (.stop)) (.stop)) (.stop)) (.stop))) (.alt 8 true (.alt 3 true (.alt 7 true (.alt 10 true (.alt 11 false (.stop) (.stop)) (.stop)) (.stop)) (.stop)) (.stop))) (.stop)))) (by kernel_rfl) fun K2 hK2 => ?_
  have g : ∀ (L : Heap) (p6 p7 : Nat), (∃ b6, hget L p6 = some (.cells (pl mi mi 1 0 4294967295 4 (H.length + b6)) true 0) ∧ hget L b6 = some (.cells [.int .i64 4] true 0)) → (∃ b7, hget L p7 = some (.cells (pl mi mi 4 0 65535 2 (H.length + b7)) true 0) ∧ hget L b7 = some (.cells [.int .i64 2] true 0)) →
      K2 ⟨[(0, .v (.pointer (some ⟨mi, 0, none⟩))), (1, .v (.pointer (some ⟨ni, 0, none⟩))), (6, .v (.pointer (some ⟨H.length + p6, 0, none⟩))), (7, .v (.pointer (some ⟨H.length + p7, 0, none⟩)))], H ++ L⟩ := by
    rintro L p6 p7 ⟨b6, h6, hb6⟩ ⟨b7, h7, hb7⟩
    refine hK2 _ ?_
    have hp6 := hget_lt h6
    have hp7 := hget_lt h7
    have hA' : ∀ M, hget (H ++ M) mi = some (.cells A true ua) := fun M => hget_old hA M
    have e6 : ∀ M, hget (L ++ M) p6 = _ := fun M => hget_old h6 M
    have e7 : ∀ M, hget (L ++ M) p7 = _ := fun M => hget_old h7 M
    have good : ∀ fs M p c cs, msgFs kd = some fs → cellsAt (L ++ M) p = some cs → FR (H ++ (L ++ M)) mi ni cs fs → R (.tuple #[.slice (some ⟨H.length + p, 0, none⟩) fs.length c, .bool true]) (H ++ (L ++ M)) := fun fs M p c cs e h1 h2 => hR _ _ (by rw [e]; exact ⟨_, rfl, p, c, cs, rfl, h1, h2⟩)
    have oS : sF.ok := by simp [sF, Fs.ok]
    have oE : eF.ok := by simp [eF, Fs.ok]
    have bS : ∀ M, ∃ u, hget (H ++ (L ++ M)) (H.length + b6) = some (.cells [.int .i64 sF.sz] true u) ∧ H.length + b6 ≠ mi ∧ H.length + b6 ≠ ni := fun M => ⟨0, by rw [hget_newk, hget_old hb6 M]; rfl, by omega, by omega⟩
    have bE : ∀ M, ∃ u, hget (H ++ (L ++ M)) (H.length + b7) = some (.cells [.int .i64 eF.sz] true u) ∧ H.length + b7 ≠ mi ∧ H.length + b7 ≠ ni := fun M => ⟨0, by rw [hget_newk, hget_old hb7 M]; rfl, by omega, by omega⟩
    by_cases c1 : kd = 1
    · subst c1
      simp [hA', hk]
      refine CallK.of (one_fn T mi 2 3 _) ?_
      rintro _ _ ⟨rfl, x, y, rfl⟩
      simp [pl, zerosN_4]
      exact Ans.refl (good _ _ _ _ _ rfl ((cellsAt_at L _ 3).trans rfl) (FR.cons (H.length + (L.length + 1)) (by simp [Fs.ok]) (fun _ => ⟨0, by simp, by omega, by omega⟩) <| FR.nil))
    by_cases c2 : kd = 2
    · subst c2
      simp [hA', hk]
      refine CallK.of (one_fn T mi 2 3 _) ?_
      rintro _ _ ⟨rfl, x, y, rfl⟩
      simp [pl, zerosN_4]
      exact Ans.refl (good _ _ _ _ _ rfl ((cellsAt_at L _ 3).trans rfl) (FR.cons (H.length + (L.length + 1)) (by simp [Fs.ok]) (fun _ => ⟨0, by simp, by omega, by omega⟩) <| FR.nil))
    by_cases c3 : kd = 3
    · subst c3
      simp [hA', hk, h6, pl, zerosN_4]
      exact Ans.refl (good _ _ _ _ _ rfl ((cellsAt_at L _ 0).trans rfl) (FR.cons (H.length + b6) oS (fun _ => bS _) <| FR.nil))
    by_cases c4 : kd = 4
    · subst c4
      simp [hA', hk, h6, pl, zerosN_4]
      exact Ans.refl (good _ _ _ _ _ rfl ((cellsAt_at L _ 0).trans rfl) (FR.cons (H.length + b6) oS (fun _ => bS _) <| FR.nil))
    by_cases c5 : kd = 5
    · subst c5
      simp [hA', hk]
      refine cw_drawl T hm xm [4, 5] (.soft 0 true <| .soft 1 false <| .alt 2 true (.alt 3 false (.soft 4 false <| .soft 5 false <| .stop) (.stop)) (.stop)) (by kernel_rfl) fun K3 hK3 => ?_
      simp [h6, pl]
      refine CallK.of (one_fn T ni 0 1 _) ?_
      rintro _ _ ⟨rfl, x, y, rfl⟩
      simp [pl, zerosN_4]
      refine hK3 _ ?_
      simp
      exact Ans.refl (good _ _ _ _ _ rfl ((cellsAt_at L _ 3).trans rfl) (FR.cons (H.length + b6) oS (fun _ => bS _) <| FR.cons (H.length + (L.length + 1)) (by simp [Fs.ok]) (fun _ => ⟨0, by simp, by omega, by omega⟩) <| FR.nil))
    by_cases c6 : kd = 6
    · subst c6
      simp [hA', hk]
      refine cw_drawl T hm xm [4, 5] (.soft 0 true <| .soft 1 false <| .soft 2 true <| .soft 3 false <| .alt 4 true (.alt 5 true (.soft 6 false <| .soft 7 false <| .stop) (.stop)) (.stop)) (by kernel_rfl) fun K3 hK3 => ?_
      simp [h6, pl]
      refine CallK.of (one_fn T mi 3 4 _) ?_
      rintro _ _ ⟨rfl, x, y, rfl⟩
      simp [pl, zerosN_4]
      refine hK3 _ ?_
      simp
      exact Ans.refl (good _ _ _ _ _ rfl ((cellsAt_at L _ 3).trans rfl) (FR.cons (H.length + b6) oS (fun _ => bS _) <| FR.cons (H.length + (L.length + 1)) (by simp [Fs.ok]) (fun _ => ⟨0, by simp, by omega, by omega⟩) <| FR.nil))
    by_cases c7 : kd = 7
    · subst c7
      simp [hA', hk, h6, h7, pl, zerosN_4]
      exact Ans.refl (good _ _ _ _ _ rfl ((cellsAt_at L _ 0).trans rfl) (FR.cons (H.length + b6) oS (fun _ => bS _) <| FR.cons (H.length + b7) oE (fun _ => bE _) <| FR.nil))
    by_cases c8 : kd = 8
    · subst c8
      simp [hA', hk, h6, pl, zerosN_4]
      exact Ans.refl (good _ _ _ _ _ rfl ((cellsAt_at L _ 0).trans rfl) (FR.cons (H.length + b6) oS (fun _ => bS _) <| FR.nil))
    by_cases c9 : kd = 9
    · subst c9
      simp [hA', hk, h6, pl, zerosN_4]
      exact Ans.refl (good _ _ _ _ _ rfl ((cellsAt_at L _ 0).trans rfl) (FR.cons (H.length + b6) oS (fun _ => bS _) <| FR.nil))
    by_cases c10 : kd = 10
    · subst c10
      simp [hA', hk]
      refine cw_drawl T hm xm [4, 5] (.soft 0 true <| .soft 1 true <| .soft 2 false <| .soft 3 true <| .soft 4 false <| .alt 5 true (.alt 6 true (.soft 7 false <| .soft 8 false <| .stop) (.stop)) (.stop)) (by kernel_rfl) fun K3 hK3 => ?_
      simp [h6, h7, pl]
      refine CallK.of (one_fn T mi 5 4 _) ?_
      rintro _ _ ⟨rfl, x, y, rfl⟩
      simp [pl, zerosN_4]
      refine hK3 _ ?_
      simp
      exact Ans.refl (good _ _ _ _ _ rfl ((cellsAt_at L _ 3).trans rfl) (FR.cons (H.length + b6) oS (fun _ => bS _) <| FR.cons (H.length + b7) oE (fun _ => bE _) <| FR.cons (H.length + (L.length + 1)) (by simp [Fs.ok]) (fun _ => ⟨0, by simp, by omega, by omega⟩) <| FR.nil))
    by_cases c11 : kd = 11
    · subst c11
      simp [hA', hk]
      refine cw_drawl T hm xm [0, 8] (.soft 0 true <| .soft 1 true <| .soft 2 false <| .soft 3 true <| .soft 4 false <| .alt 5 true (.alt 6 true (.soft 7 false <| .stop) (.stop)) (.stop)) (by kernel_rfl) fun K3 hK3 => ?_
      simp [h6, h7, pl]
      refine CallK.is (plain_fn T mi 6 1 3 1 _) ?_
      simp [pl, zerosN_4]
      refine hK3 _ ?_
      simp
      refine cw_open 8 6 (i := H.length + (L.length + 2)) (n := 3) (by simp) (by simp; exact ⟨rfl, rfl⟩) (by simp) (by simp) (by unfold OPEN; omega) ?_
      simp
      refine W_forE T xm H (fun i (q : Nat) => [(0, .v (.pointer (some ⟨mi, 0, none⟩))), (8, .v (.slice (some ⟨H.length + q, 0, none⟩) (3 + i) OPEN)), (74, .v (.int .i64 i))]) (fun i q M => ∃ cs, hget M q = some (grown cs 6) ∧ cs.length = (3 + i) * 6 ∧ FR (H ++ M) mi ni cs ([sF, eF, ⟨false, 6, 1, 3, 1, false⟩] ++ xs4 i)) 4 ⟨L.length + 3, _, ⟨_, (hget_at 3 (by simp)).trans rfl, by rfl, FR.cons (H.length + b6) oS (fun _ => bS _) <| FR.cons (H.length + b7) oE (fun _ => bE _) <| FR.cons (H.length + L.length) (by simp [Fs.ok]) (fun _ => ⟨0, by simp, by omega, by omega⟩) FR.nil⟩, by simp, rfl⟩ ?_
      clear good
      rintro i q M hi ⟨cs, h1, h2, h3⟩ K Q hK hQ
      have hq := hget_lt h1
      have hA2 : ∀ X, hget (H ++ X) mi = some (.cells A true ua) := fun X => hget_old hA X
      simp
      refine ⟨fun hc => ?_, fun hc => ?_⟩
      · refine ⟨hc, ?_⟩
        refine CallK.of (axis_fn T mi (8 + i) _) ?_
        rintro _ _ ⟨rfl, x, rfl⟩
        simp [Fs.cells, xF, zerosN_4, hget_append hq, hq, h1, h2]
        refine ⟨⟨by omega, by omega⟩, by omega, hK _ _ (M.length + 2) (by omega) ⟨cs ++ Fs.cells mi ni 0 (xF (8 + i)), (hget_at 2 (by simp)).trans rfl, by simp [h2, Fs.cells]; omega, ?_⟩ (by simp; omega) (by simp)⟩
        have el : ∀ l : List Fs, l ++ xs4 (i + 1) = (l ++ xs4 i) ++ [xF (8 + i)] := fun l => by rw [xs4_succ, List.append_assoc]
        rw [el]
        refine FR.snoc 0 (by simp [h2, xs4]; omega) (FR.mono' (fun b n u hb => ?_) h3) (by simp [Fs.ok, xF]) (fun q => by cases q)
        by_cases hbl : b < H.length
        · rw [hget_append hbl, hget_append hbl]
        · obtain ⟨k, rfl⟩ : ∃ k, b = H.length + k := ⟨b - H.length, by omega⟩
          rw [hget_newk] at hb
          have hkq : k ≠ q := by
            rintro rfl
            rw [h1] at hb
            cases cs with
            | nil => simp at h2; omega
            | cons c r =>
              simp only [grown, Option.some.injEq, Blk.cells.injEq] at hb
              have := congrArg List.length hb.1
              simp only [List.length_cons, List.length_nil] at this h2
              omega
          rw [hget_newk, hget_newk, hget_append (by simp; exact hget_lt hb), hget_set, if_neg (fun e => hkq e.1.symm)]
      · have hi4 : i = 4 := by omega
        subst hi4
        refine hQ _ _ ?_
        simp
        refine Ans.refl (hR _ _ ⟨M, rfl, q, OPEN, cs, rfl, ?_, h3⟩)
        rw [cellsAt_eq, h1, cellsB_grown]
    have e0 : msgFs kd = none := by simp [msgFs, c1, c2, c3, c4, c5, c6, c7, c8, c9, c10, c11]
    simp [hA', hk, c1, c2, c3, c4, c5, c6, c7, c8, c9, c10, c11]
    exact Ans.refl (hR _ _ (by rw [e0]; exact ⟨L, rfl, rfl⟩))
  clear hK2
  simp
  repeat' (first | (refine CallK.of (seq_fn T _ _ _) ?_; rintro _ _ ⟨rfl, x, y, rfl⟩; simp [pl]) | (refine CallK.of (epoch_fn T _ _ _) ?_; rintro _ _ ⟨rfl, z, w, rfl⟩; simp [pl]) | apply And.intro)
  all_goals simp only [Nat.add_assoc, Nat.reduceAdd]
  all_goals first | exact g _ _ _ ⟨_, rfl, rfl⟩ ⟨_, rfl, rfl⟩ | exact g _ 0 _ ⟨_, rfl, rfl⟩ ⟨_, rfl, rfl⟩ | exact g _ _ 0 ⟨_, rfl, rfl⟩ ⟨_, rfl, rfl⟩
end Go.Proofs
