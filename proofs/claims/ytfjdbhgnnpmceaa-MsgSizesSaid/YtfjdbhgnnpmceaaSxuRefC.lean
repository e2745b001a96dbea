/-
  Walks by Sx; no condition beyond those that stand in each statement.
-/
import Derived.Test.YtfjdbhgnnpmceaaSxuRefB
namespace Go.Proofs
open Go Go.Sx
set_option maxRecDepth 100000
attribute [local simp] xm
def b8 (n : Int) : UInt8 := UInt8.ofNat n.toNat
def xsB (m : Mg) (i : Nat) : List UInt8 := (List.range i).flatMap fun j => be 2 (m.get (8 + j) % 65536).toNat
theorem xsB_succ (m : Mg) (i : Nat) : xsB m (i + 1) = xsB m i ++ be 2 (m.get (8 + i) % 65536).toNat := by simp [xsB, List.range_succ]
theorem xsB_length (m : Mg) : ∀ i, (xsB m i).length = 2 * i
  | 0 => rfl
  | i + 1 => by rw [xsB_succ, List.length_append, xsB_length m i, be_length]; omega
/-- A message as bytes. -/
def bytesP (m : Mg) : List UInt8 :=
  if m.kind = 1 ∨ m.kind = 2 then [b8 m.kind, b8 m.role]
  else [b8 m.kind] ++ be 4 m.seq.toNat ++
    if m.kind = 5 then [if m.now = true then 1 else 0]
    else if m.kind = 6 then [b8 m.to]
    else if m.kind = 7 then be 2 m.epoch.toNat
    else if m.kind = 10 then be 2 m.epoch.toNat ++ [b8 m.mode]
    else if m.kind = 11 then be 2 m.epoch.toNat ++ [b8 m.cls] ++ xsB m 4
    else []
def rPutP (m : Mg) : Option (List UInt8) := if fitsP m ∧ namedP m = m then some (bytesP m) else none
theorem wrap_b8 {n : Int} (h0 : 0 ≤ n) (h1 : n < 256) : IntKind.u8.wrap n = ((b8 n).toNat : Int) := by
  simp [b8, IntKind.wrap, IntKind.signed, IntKind.bits]; omega
theorem PutR.some {H L : Heap} {o : List UInt8} {p : Nat} (h : hget L p = Option.some (grown (u8s o) 1)) {r : Value} (hr : r = .tuple #[.slice (Option.some ⟨H.length + p, 0, none⟩) o.length OPEN, .int .i64 0]) : PutR H (Option.some o) r (H ++ L) := ⟨L, rfl, p, h, hr⟩
theorem PutR.none {H L : Heap} : PutR H none (.tuple #[.slice none 0 0, .int .i64 1]) (H ++ L) := ⟨L, rfl, rfl⟩
variable (T : TyOk Try.prog (tyOf Try.prog Try.eqs)) (hm : Try.prog.follows .mixedOrders = true)
theorem flatEq_Mz (a b : Mg) : flatEq [.int .i64 0, .int .i64 0, .int .i64 0, .int .i64 0, .int .i64 0, .int .i64 0, .int .i64 0, .bool false, .int .i64 0, .int .i64 0, .int .i64 0, .int .i64 0] a.cells b.cells = some (decide (a = b)) := flatEq_Mg a b
include T hm
set_option maxHeartbeats 4000000 in
theorem refPut_fn (m : Mg) (H : Heap) : Sx.Fn Try.prog 31 [.agg m.cells.toArray] H fun r h => PutR H (rPutP m) r h := by
  refine fn_w T xm Try.func31 rfl (by kernel_rfl) Try.results31 Try.ntmps31 (by simp) fun R hR => ?_
  have c0 : m.cells[0]? = some (.int .i64 m.kind) := rfl
  have c1 : m.cells[1]? = some (.int .i64 m.seq) := rfl
  have c2 : m.cells[2]? = some (.int .i64 m.role) := rfl
  have c3 : m.cells[3]? = some (.int .i64 m.to) := rfl
  have c4 : m.cells[4]? = some (.int .i64 m.epoch) := rfl
  have c5 : m.cells[5]? = some (.int .i64 m.mode) := rfl
  have c6 : m.cells[6]? = some (.int .i64 m.cls) := rfl
  have c7 : m.cells[7]? = some (.bool m.now) := rfl
  simp [Mg.take12]
  refine CallK.of (fits_fn T m _) ?_
  rintro _ _ ⟨rfl, L1, rfl⟩
  simp
  refine cw_drawl T hm xm [1, 18] (.soft 0 false <| .soft 1 false <| .soft 2 false <| .soft 3 true <| .soft 5 true <| .alt 4 true (.soft 6 false <| .soft 7 false <| .stop) (.stop)) (by kernel_rfl) fun K hK => ?_
  have g : ∀ v L, v = !decide (fitsP m ∧ namedP m = m) → K ⟨[(1, .v (.pointer (some ⟨H.length, 0, none⟩))), (18, .v (.bool v))], H ++ some (.cells m.cells true 0) :: L⟩ := by
    intro v L hv
    refine hK _ ?_
    clear hK
    by_cases hc : fitsP m ∧ namedP m = m
    · have er : rPutP m = some (bytesP m) := if_pos hc
      rw [er] at hR
      have hv : v = false := by simp [hv, hc]
      subst hv
      obtain ⟨hfit, _⟩ := hc
      obtain ⟨h0, h1, h2, h3, hk, hs, he, hr, hto, hmo, hcl⟩ := hfit
      simp only [inP] at h0 h1 h2 h3 hk hs he hr hto hmo hcl
      have wk := wrap_b8 (n := m.kind) (by omega) (by omega)
      have wr := wrap_b8 (n := m.role) (by omega) (by omega)
      have wt := wrap_b8 (n := m.to) (by omega) (by omega)
      have wm := wrap_b8 (n := m.mode) (by omega) (by omega)
      have wc := wrap_b8 (n := m.cls) (by omega) (by omega)
      have e4 : ∀ v, List.take 4 (be 4 v) = be 4 v := fun v => List.take_of_length_le (by simp)
      have e2 : ∀ v, List.take 2 (be 2 v) = be 2 v := fun v => List.take_of_length_le (by simp)
      by_cases q1 : m.kind = 1
      · replace q1 := eq_true q1
        have eb := bytesP.eq_def m
        simp only [q1, if_true, true_or] at eb
        rw [eb] at hR
        simp [q1, c0, c2, zerosN_4, zerosN_0, wk, wr]
        exact Ans.refl (hR _ _ (PutR.some (p := L.length + 2 + 1) (by simp [u8s]; rfl) (by simp)))
      by_cases q2 : m.kind = 2
      · replace q2 := eq_true q2
        have eb := bytesP.eq_def m
        simp only [q1, q2, if_true, or_true] at eb
        rw [eb] at hR
        simp [q1, q2, c0, c2, zerosN_4, zerosN_0, wk, wr]
        exact Ans.refl (hR _ _ (PutR.some (p := L.length + 2 + 1) (by simp [u8s]; rfl) (by simp)))
      by_cases q5 : m.kind = 5
      · replace q5 := eq_true q5
        have eb := bytesP.eq_def m
        simp only [q1, q2, q5, if_true, if_false, or_self] at eb
        rw [eb] at hR
        simp [q1, q2, c0, c1, zerosN_4, zerosN_0, wk]
        refine CallK.is (rput_fn T m.seq 4 (by omega) (by omega) (by omega) (by omega) _) ?_
        simp [q5, c0, c7, zerosN_4, zerosN_0, e4]
        refine ⟨fun hw => ?_, fun hw => ?_⟩
        · exact Ans.refl (hR _ _ (PutR.some (p := L.length + 4 + 1) (by simp [u8s, hw]; rfl) (by simp [hw])))
        · exact Ans.refl (hR _ _ (PutR.some (p := L.length + 4 + 1) (by simp [u8s, hw]; rfl) (by simp [hw])))
      by_cases q6 : m.kind = 6
      · replace q6 := eq_true q6
        have eb := bytesP.eq_def m
        simp only [q1, q2, q5, q6, if_true, if_false, or_self] at eb
        rw [eb] at hR
        simp [q1, q2, c0, c1, zerosN_4, zerosN_0, wk]
        refine CallK.is (rput_fn T m.seq 4 (by omega) (by omega) (by omega) (by omega) _) ?_
        simp [q5, q6, c0, c3, zerosN_4, zerosN_0, wt, e4]
        exact Ans.refl (hR _ _ (PutR.some (p := L.length + 4 + 1) (by simp [u8s]; rfl) (by simp)))
      by_cases q7 : m.kind = 7
      · replace q7 := eq_true q7
        have eb := bytesP.eq_def m
        simp only [q1, q2, q5, q6, q7, if_true, if_false, or_self] at eb
        rw [eb] at hR
        simp [q1, q2, c0, c1, zerosN_4, zerosN_0, wk]
        refine CallK.is (rput_fn T m.seq 4 (by omega) (by omega) (by omega) (by omega) _) ?_
        simp [q5, q6, q7, c0, c4, e4]
        refine CallK.is (rput_fn T m.epoch 2 (by omega) (by omega) (by omega) (by omega) _) ?_
        simp [e2]
        exact Ans.refl (hR _ _ (PutR.some (p := L.length + 4 + 1) (by simp [u8s]; rfl) (by simp)))
      by_cases q10 : m.kind = 10
      · replace q10 := eq_true q10
        have eb := bytesP.eq_def m
        simp only [q1, q2, q5, q6, q7, q10, if_true, if_false, or_self] at eb
        rw [eb] at hR
        simp [q1, q2, c0, c1, zerosN_4, zerosN_0, wk]
        refine CallK.is (rput_fn T m.seq 4 (by omega) (by omega) (by omega) (by omega) _) ?_
        simp [q5, q6, q7, q10, c0, e4]
        refine cw_drawl T hm xm [2, 3] (.soft 0 false <| .soft 1 false <| .soft 5 false <| .alt 2 false (.alt 3 false (.alt 4 false (.alt 6 false (.alt 7 false (.alt 8 false (.alt 9 false (.soft 10 false <| .soft 11 false <| .stop) (.stop)) (.stop)) (.stop)) (.stop)) (.alt 6 false (.alt 4 false (.alt 7 false (.alt 8 false (.alt 9 false (.soft 10 false <| .soft 11 false <| .stop) (.stop)) (.stop)) (.stop)) (.alt 7 false (.alt 4 false (.alt 8 false (.alt 9 false (.soft 10 false <| .soft 11 false <| .stop) (.stop)) (.stop)) (.alt 8 false (.alt 4 false (.alt 9 false (.soft 10 false <| .soft 11 false <| .stop) (.stop)) (.stop)) (.stop))) (.stop))) (.stop))) (.alt 6 false (.alt 3 false (.alt 4 false (.alt 7 false (.alt 8 false (.alt 9 false (.soft 10 false <| .soft 11 false <| .stop) (.stop)) (.stop)) (.stop)) (.alt 7 false (.alt 4 false (.alt 8 false (.alt 9 false (.soft 10 false <| .soft 11 false <| .stop) (.stop)) (.stop)) (.alt 8 false (.alt 4 false (.alt 9 false (.soft 10 false <| .soft 11 false <| .stop) (.stop)) (.stop)) (.stop))) (.stop))) (.alt 7 false (.alt 3 false (.alt 4 false (.alt 8 false (.alt 9 false (.soft 10 false <| .soft 11 false <| .stop) (.stop)) (.stop)) (.alt 8 false (.alt 4 false (.alt 9 false (.soft 10 false <| .soft 11 false <| .stop) (.stop)) (.stop)) (.stop))) (.alt 8 false (.alt 3 false (.alt 4 false (.alt 9 false (.soft 10 false <| .soft 11 false <| .stop) (.stop)) (.stop)) (.stop)) (.stop))) (.stop))) (.stop))) (.alt 6 false (.alt 2 false (.alt 3 false (.alt 4 false (.alt 7 false (.alt 8 false (.alt 9 false (.soft 10 false <| .soft 11 false <| .stop) (.stop)) (.stop)) (.stop)) (.alt 7 false (.alt 4 false (.alt 8 false (.alt 9 false (.soft 10 false <| .soft 11 false <| .stop) (.stop)) (.stop)) (.alt 8 false (.alt 4 false (.alt 9 false (.soft 10 false <| .soft 11 false <| .stop) (.stop)) (.stop)) (.stop))) (.stop))) (.alt 7 false (.alt 3 false (.alt 4 false (.alt 8 false (.alt 9 false (.soft 10 false <| .soft 11 false <| .stop) (.stop)) (.stop)) (.alt 8 false (.alt 4 false (.alt 9 false (.soft 10 false <| .soft 11 false <| .stop) (.stop)) (.stop)) (.stop))) (.alt 8 false (.alt 3 false (.alt 4 false (.alt 9 false (.soft 10 false <| .soft 11 false <| .stop) (.stop)) (.stop)) (.stop)) (.stop))) (.stop))) (.alt 7 false (.alt 2 false (.alt 3 false (.alt 4 false (.alt 8 false (.alt 9 false (.soft 10 false <| .soft 11 false <| .stop) (.stop)) (.stop)) (.alt 8 false (.alt 4 false (.alt 9 false (.soft 10 false <| .soft 11 false <| .stop) (.stop)) (.stop)) (.stop))) (.alt 8 false (.alt 3 false (.alt 4 false (.alt 9 false (.soft 10 false <| .soft 11 false <| .stop) (.stop)) (.stop)) (.stop)) (.stop))) (.alt 8 false (.alt 2 false (.alt 3 false (.alt 4 false (.alt 9 false (.soft 10 false <| .soft 11 false <| .stop) (.stop)) (.stop)) (.stop)) (.stop)) (.stop))) (.stop))) (.stop))) (by kernel_rfl) fun K hK => ?_
        have hK' : ∀ M p, hget M p = some (grown (u8s ([b8 m.kind] ++ be 4 m.seq.toNat ++ (be 2 m.epoch.toNat ++ [b8 m.mode]))) 1) → K ⟨[(2, .v (.slice (some ⟨H.length + p, 0, none⟩) 8 OPEN)), (3, .v (.int .i64 0))], H ++ M⟩ := fun M p q => by
          refine hK _ ?_
          simp
          exact Ans.refl (hR _ _ (PutR.some q (by simp)))
        clear hK
        simp [c4, c5, zerosN_4, zerosN_0, wm]
        repeat' (first | (refine CallK.is (rput_fn T m.epoch 2 (by omega) (by omega) (by omega) (by omega) _) ?_; simp [c5, zerosN_4, zerosN_0, wm, e2]) | apply And.intro)
        all_goals exact hK' _ (L.length + 6 + 1) (by simp [u8s]; rfl)
      by_cases q11 : m.kind = 11
      · replace q11 := eq_true q11
        have eb := bytesP.eq_def m
        simp only [q1, q2, q5, q6, q7, q10, q11, if_true, if_false, or_self] at eb
        rw [eb] at hR
        simp [q1, q2, c0, c1, zerosN_4, zerosN_0, wk]
        refine CallK.is (rput_fn T m.seq 4 (by omega) (by omega) (by omega) (by omega) _) ?_
        simp [q5, q6, q7, q10, q11, c0, e4]
        refine cw_drawl T hm xm [1, 5] (.soft 0 false <| .soft 1 false <| .soft 5 false <| .alt 2 false (.alt 3 false (.alt 4 false (.alt 6 false (.alt 7 false (.alt 8 false (.alt 9 false (.soft 10 false <| .stop) (.stop)) (.stop)) (.stop)) (.stop)) (.alt 6 false (.alt 4 false (.alt 7 false (.alt 8 false (.alt 9 false (.soft 10 false <| .stop) (.stop)) (.stop)) (.stop)) (.alt 7 false (.alt 4 false (.alt 8 false (.alt 9 false (.soft 10 false <| .stop) (.stop)) (.stop)) (.alt 8 false (.alt 4 false (.alt 9 false (.soft 10 false <| .stop) (.stop)) (.stop)) (.stop))) (.stop))) (.stop))) (.alt 6 false (.alt 3 false (.alt 4 false (.alt 7 false (.alt 8 false (.alt 9 false (.soft 10 false <| .stop) (.stop)) (.stop)) (.stop)) (.alt 7 false (.alt 4 false (.alt 8 false (.alt 9 false (.soft 10 false <| .stop) (.stop)) (.stop)) (.alt 8 false (.alt 4 false (.alt 9 false (.soft 10 false <| .stop) (.stop)) (.stop)) (.stop))) (.stop))) (.alt 7 false (.alt 3 false (.alt 4 false (.alt 8 false (.alt 9 false (.soft 10 false <| .stop) (.stop)) (.stop)) (.alt 8 false (.alt 4 false (.alt 9 false (.soft 10 false <| .stop) (.stop)) (.stop)) (.stop))) (.alt 8 false (.alt 3 false (.alt 4 false (.alt 9 false (.soft 10 false <| .stop) (.stop)) (.stop)) (.stop)) (.stop))) (.stop))) (.stop))) (.alt 6 false (.alt 2 false (.alt 3 false (.alt 4 false (.alt 7 false (.alt 8 false (.alt 9 false (.soft 10 false <| .stop) (.stop)) (.stop)) (.stop)) (.alt 7 false (.alt 4 false (.alt 8 false (.alt 9 false (.soft 10 false <| .stop) (.stop)) (.stop)) (.alt 8 false (.alt 4 false (.alt 9 false (.soft 10 false <| .stop) (.stop)) (.stop)) (.stop))) (.stop))) (.alt 7 false (.alt 3 false (.alt 4 false (.alt 8 false (.alt 9 false (.soft 10 false <| .stop) (.stop)) (.stop)) (.alt 8 false (.alt 4 false (.alt 9 false (.soft 10 false <| .stop) (.stop)) (.stop)) (.stop))) (.alt 8 false (.alt 3 false (.alt 4 false (.alt 9 false (.soft 10 false <| .stop) (.stop)) (.stop)) (.stop)) (.stop))) (.stop))) (.alt 7 false (.alt 2 false (.alt 3 false (.alt 4 false (.alt 8 false (.alt 9 false (.soft 10 false <| .stop) (.stop)) (.stop)) (.alt 8 false (.alt 4 false (.alt 9 false (.soft 10 false <| .stop) (.stop)) (.stop)) (.stop))) (.alt 8 false (.alt 3 false (.alt 4 false (.alt 9 false (.soft 10 false <| .stop) (.stop)) (.stop)) (.stop)) (.stop))) (.alt 8 false (.alt 2 false (.alt 3 false (.alt 4 false (.alt 9 false (.soft 10 false <| .stop) (.stop)) (.stop)) (.stop)) (.stop)) (.stop))) (.stop))) (.stop))) (by kernel_rfl) fun K hK => ?_
        have hK' : ∀ M p, hget M 0 = some (.cells m.cells true 0) → hget M p = some (grown (u8s ([b8 m.kind] ++ be 4 m.seq.toNat ++ (be 2 m.epoch.toNat ++ [b8 m.cls]))) 1) → K ⟨[(1, .v (.pointer (some ⟨H.length, 0, none⟩))), (5, .v (.slice (some ⟨H.length + p, 0, none⟩) 8 OPEN))], H ++ M⟩ := fun M p q0 q => by
          refine hK _ ?_
          simp
          refine W_forE T xm H (fun i (q : Nat) => [(1, .v (.pointer (some ⟨H.length, 0, none⟩))), (5, .v (.slice (some ⟨H.length + q, 0, none⟩) (8 + 2 * i) OPEN)), (6, .v (.int .i64 i))]) (fun i q M => hget M 0 = some (.cells m.cells true 0) ∧ hget M q = some (grown (u8s ([b8 m.kind] ++ be 4 m.seq.toNat ++ (be 2 m.epoch.toNat ++ [b8 m.cls]) ++ xsB m i)) 1)) 4 ⟨p, _, ⟨q0, by simpa [xsB] using q⟩, by simp, rfl⟩ ?_
          rintro i q M hi ⟨g0, g1⟩ K Q hK hQ
          simp
          refine ⟨fun h => ?_, fun h => ?_⟩
          · have hx : inP (m.get (8 + i)) (-32768) 32767 := by
              match i, (show i < 4 by omega) with
              | 0, _ => exact h0
              | 1, _ => exact h1
              | 2, _ => exact h2
              | 3, _ => exact h3
            obtain ⟨x1, x2⟩ := hx
            have hgt := Mg.get_cells m (k := 8 + i) (by omega) (by omega)
            simp only [g0]
            simp [hgt]
            refine ⟨h, ?_⟩
            refine CallK.is (rPutInt_fn T _ x1 x2 _) ?_
            simp
            have hq := hget_lt g1
            have hq0 : q ≠ 0 := by
              rintro rfl
              rw [g0] at g1
              have := congrArg (fun b => b.map (fun b => match b with | .cells _ _ u => u | _ => 7)) g1
              simp [grown, Mg.cells, u8s] at this
            simp [hget_append hq, hq, g1, e2]
            refine ⟨by omega, by rw [xsB_length]; omega, by omega, hK _ _ (M.length + 1) (by omega) ⟨?_, ?_⟩ ?_ (by simp)⟩
            · rw [hget_append (by simp; omega), hget_set, if_neg (fun h => hq0 h.1)]; exact g0
            · rw [xsB_succ]; refine (hget_at 1 (by simp)).trans ?_; simp
            · simp; omega
          · have h4 : i = 4 := by omega
            subst h4
            refine hQ _ _ ?_
            simp
            exact Ans.refl (hR _ _ (PutR.some g1 (by simp [xsB, List.range_succ])))
        clear hK
        simp [c4, c6, zerosN_4, zerosN_0, wc]
        repeat' (first | (refine CallK.is (rput_fn T m.epoch 2 (by omega) (by omega) (by omega) (by omega) _) ?_; simp [c6, zerosN_4, zerosN_0, wc, e2]) | apply And.intro)
        all_goals exact hK' _ (L.length + 6 + 1) rfl (by simp [u8s]; rfl)
      have eb := bytesP.eq_def m
      simp only [q1, q2, q5, q6, q7, q10, q11, if_false, or_self] at eb
      rw [eb] at hR
      simp [q1, q2, c0, c1, zerosN_4, zerosN_0, wk]
      refine CallK.is (rput_fn T m.seq 4 (by omega) (by omega) (by omega) (by omega) _) ?_
      simp [q5, q6, q7, q10, q11, c0, e4]
      exact Ans.refl (hR _ _ (PutR.some (p := L.length + 2 + 1) (by simp [u8s]; rfl) (by simp)))
    · have er : rPutP m = none := if_neg hc
      rw [er] at hR
      have hv : v = true := by simp only [hv, hc, decide_false, Bool.not_false]
      subst hv
      simp
      exact Ans.refl (hR _ _ PutR.none)
  clear hK
  simp [Mg.take12]
  refine ⟨fun hf => ?_, fun hf => g _ _ (by simp [hf])⟩
  refine CallK.of (named_fn T m _) ?_
  rintro _ _ ⟨rfl, L2, rfl⟩
  simp
  simp [flatEq_Mz]
  exact g _ _ (by simp [hf])
end Go.Proofs
