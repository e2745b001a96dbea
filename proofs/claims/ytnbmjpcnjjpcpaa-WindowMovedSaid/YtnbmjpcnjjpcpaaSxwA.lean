/-
  Walks by Sx; no condition beyond those that stand in each statement.
-/
import Derived.Test.YtnbmjpcnjjpcpaaSxTyW
import Derived.Test.YtnbmjpcnjjpcpaaSxwW
namespace Go.Proofs
open Go Go.Sx
set_option maxRecDepth 100000
def xw : Sx.Mode
  | .i64 => true
  | .i32 => true
  | _ => false
attribute [local simp] xw setL_all
variable (T : TyOk Try.prog (tyOf Try.prog Try.eqs)) (hm : Try.prog.follows .mixedOrders = true)
/-- A window's cells. -/
def wc (a : Bool) (h : Int) (s : Int) : List Value := [.bool a, .int .i64 h, .int .u64 s]
def up (s d : Int) : Int := Go.bits .or .u64 (IntKind.u64.wrap (s * 2 ^ min d.toNat 64)) 1
def lo (s d : Int) : Int := Go.bits .or .u64 s (IntKind.u64.wrap (2 ^ min d.toNat 64))
structure Wn where
  a : Bool
  h : Int
  s : Int
  deriving DecidableEq
def Wn.cells (w : Wn) : List Value := [.bool w.a, .int .i64 w.h, .int .u64 w.s]
def see (w : Wn) (n : Int) : Wn :=
  if w.a = false ∨ w.h ≤ n - 64 then ⟨true, n, 1⟩ else if w.h < n then ⟨w.a, n, up w.s (n - w.h)⟩ else if w.h - n < 64 then ⟨w.a, w.h, lo w.s (w.h - n)⟩ else w
def Wn.eqb (x y : Wn) : Bool := (x.a == y.a) && ((x.h == y.h) && (x.s == y.s))
include T hm
theorem see_fn0 (w : Wn) (n : Int) (hn : 0 ≤ n ∧ n ≤ 4294967295) (hh : 0 ≤ w.h ∧ w.h ≤ 4294967295) :
    Sx.Fn Try.prog 11 [.agg w.cells.toArray, .int .i64 n] [] fun r _ => r = .tuple #[.agg (see w n).cells.toArray, .bool (!(see w n).eqb w)] := by
  refine fn_start T Try.func11 rfl (by kernel_rfl) Try.results11 Try.ntmps11 (by simp) ?_
  intro Q hQ
  simp only [argTm]
  obtain ⟨a, h, s⟩ := w
  simp only [Wn.cells] at *
  refine cw_step T xw [1, 2, 4] fun K1 hK1 => ?_
  simp
  refine hK1 _ ?_; clear hK1 K1
  refine cw_seq fun K2 hK2 => ?_
  refine cw_step T xw [1, 2, 4, 12] fun K3 hK3 => ?_
  simp
  have g : K3 ⟨[(1, .v (.int .i64 n)), (2, .v (.pointer (some ⟨0, 0, none⟩))), (4, .v (.pointer (some ⟨1, 0, none⟩))), (12, .v (.bool false))], [some (.cells [.bool a, .int .i64 h, .int .u64 s] true 0), some (.cells [.bool false, .int .i64 0, .int .u64 0] true 0)]⟩ := by
    refine hK3 _ ?_; clear hK3 K3
    refine cw_cond rfl (fun hc => absurd hc (by simp)) (fun _ => ?_)
    refine cw_skip ?_
    refine hK2 _ ?_; clear hK2
    refine cw_step T xw [1, 2, 4, 6] fun K5 hK5 => ?_
    simp
    refine hK5 _ ?_; clear hK5 K5
    refine cw_seq fun K6 hK6 => ?_
    have g6 : ∀ (X : List (Nat × Ent)) (a' : Bool) (h' s' : Int), see ⟨a, h, s⟩ n = ⟨a', h', s'⟩ → K6 ⟨(1, .v (.int .i64 n)) :: (2, .v (.pointer (some ⟨0, 0, none⟩))) :: (4, .v (.pointer (some ⟨1, 0, none⟩))) :: (6, .v (.pointer (some ⟨2, 0, none⟩))) :: X,
        [some (.cells [.bool a', .int .i64 h', .int .u64 s'] true 0), some (.cells [.bool false, .int .i64 0, .int .u64 0] true 0), some (.cells [.bool a, .int .i64 h, .int .u64 s] true 0)]⟩ := by
      intro X a' h' s' hs
      refine hK6 _ ?_; clear hK6
      refine cw_draw T hm xw [4, 5] (.alt 0 false (.alt 1 false (.alt 2 false (.soft 3 false <| .alt 4 false (.soft 5 false <| .stop) (.stop)) (.alt 4 false (.alt 2 false (.soft 3 false <| .soft 5 false <| .stop) (.stop)) (.stop))) (.alt 2 false (.alt 1 false (.soft 3 false <| .alt 4 false (.soft 5 false <| .stop) (.stop)) (.alt 4 false (.alt 1 false (.soft 3 false <| .soft 5 false <| .stop) (.stop)) (.stop))) (.alt 4 false (.alt 1 false (.alt 2 false (.soft 3 false <| .soft 5 false <| .stop) (.stop)) (.alt 2 false (.alt 1 false (.soft 3 false <| .soft 5 false <| .stop) (.stop)) (.stop))) (.stop)))) (.alt 1 false (.alt 0 false (.alt 2 false (.soft 3 false <| .alt 4 false (.soft 5 false <| .stop) (.stop)) (.alt 4 false (.alt 2 false (.soft 3 false <| .soft 5 false <| .stop) (.stop)) (.stop))) (.alt 2 false (.soft 3 false <| .alt 0 false (.alt 4 false (.soft 5 false <| .stop) (.stop)) (.stop)) (.stop))) (.alt 2 false (.alt 0 false (.alt 1 false (.soft 3 false <| .alt 4 false (.soft 5 false <| .stop) (.stop)) (.alt 4 false (.alt 1 false (.soft 3 false <| .soft 5 false <| .stop) (.stop)) (.stop))) (.alt 1 false (.soft 3 false <| .alt 0 false (.alt 4 false (.soft 5 false <| .stop) (.stop)) (.stop)) (.stop))) (.stop)))) (by kernel_rfl) fun K9 hK9 => ?_
      have hne : (!(a' == a && (h' == h && s' == s))) = (!(Wn.eqb ⟨a', h', s'⟩ ⟨a, h, s⟩)) := rfl
      have g9 : K9 ⟨[(4, .v (.pointer (some ⟨1, 0, none⟩))), (5, .v (.bool (!(a' == a && (h' == h && s' == s)))))], [some (.cells [.bool a', .int .i64 h', .int .u64 s'] true 0), some (.cells [.bool a', .int .i64 h', .int .u64 s'] true 0), some (.cells [.bool a, .int .i64 h, .int .u64 s] true 0)]⟩ := by
        refine hK9 _ ?_; clear hK9 K9
        exact cw_ret (hQ _ (.tuple #[.agg (Wn.cells ⟨a', h', s'⟩).toArray, .bool (!(a' == a && (h' == h && s' == s)))]) _ _ (resC_two (by simp [Wn.cells]) (by simp)) (Ret.refl _ _ _) (by rw [hs, hne]; rfl)).2
      simp
      simp at g9
      exact g9
    clear hK6
    refine cw_block ?_
    refine cw_step T xw [1, 2, 4, 6, 15] fun K7 hK7 => ?_
    simp
    have g7 : K7 ⟨[(1, .v (.int .i64 n)), (2, .v (.pointer (some ⟨0, 0, none⟩))), (4, .v (.pointer (some ⟨1, 0, none⟩))), (6, .v (.pointer (some ⟨2, 0, none⟩))), (15, .v (.bool (decide (a = false ∨ h ≤ n - 64))))], [some (.cells [.bool a, .int .i64 h, .int .u64 s] true 0), some (.cells [.bool false, .int .i64 0, .int .u64 0] true 0), some (.cells [.bool a, .int .i64 h, .int .u64 s] true 0)]⟩ := by
      refine hK7 _ ?_; clear hK7 K7
      refine cw_cond rfl (fun hc => ?_) (fun hc => ?_)
      · have hc : a = false ∨ h ≤ n - 64 := by simpa using hc
        refine cw_last T xw [1, 2, 4, 6] fun K8 hK8 => ?_
        simp
        refine hK8 _ ?_; clear hK8 K8
        exact g6 [] true n 1 (by unfold see; rw [if_pos hc])
      · have hc : ¬ (a = false ∨ h ≤ n - 64) := by simpa using hc
        refine cw_step T xw [1, 2, 4, 6, 28] fun K10 hK10 => ?_
        simp
        refine hK10 _ ?_; clear hK10 K10
        refine cw_cond rfl (fun hd => ?_) (fun hd => ?_)
        · have hd : h < n := by simpa using hd
          refine cw_last T xw [1, 2, 4, 6] fun K11 hK11 => ?_
          simp
          refine ⟨by omega, by omega, ?_⟩
          refine hK11 _ ?_; clear hK11 K11
          exact g6 [] a n (up s (n - h)) (by unfold see; rw [if_neg hc, if_pos hd])
        · have hd : ¬ h < n := by simpa using hd
          refine cw_step T xw [1, 2, 4, 6, 44] fun K13 hK13 => ?_
          simp
          refine ⟨by omega, ?_⟩
          refine hK13 _ ?_; clear hK13 K13
          refine cw_cond rfl (fun he => ?_) (fun he => ?_)
          · have he : h - n < 64 := by simpa using he
            refine cw_drawl T hm xw [1, 2, 4, 6] (.soft 0 false <| .soft 1 true <| .soft 2 false <| .soft 3 true <| .soft 4 false <| .soft 5 false <| .soft 6 false <| .soft 7 false <| .soft 8 false <| .alt 9 false (.stop) (.stop)) (by kernel_rfl) fun K14 hK14 => ?_
            simp
            refine ⟨by omega, by omega, ?_⟩
            refine hK14 _ ?_; clear hK14 K14
            exact g6 [] a h (lo s (h - n)) (by unfold see; rw [if_neg hc, if_neg hd, if_pos he])
          · have he : ¬ h - n < 64 := by simpa using he
            refine cw_skip ?_
            exact g6 [(44, .v (.bool (decide (h - n < 64))))] a h s (by unfold see; rw [if_neg hc, if_neg hd, if_neg he])
    refine ⟨fun e => ⟨by omega, ?_⟩, fun e => ?_⟩
    · subst e; simpa using g7
    · subst e; simpa using g7
  refine ⟨fun e => ?_, fun e => by omega⟩
  have e2 : decide (4294967295 < n) = false := by simp; omega
  rw [e2]; exact g
omit T hm in
theorem Wn.plain (w : Wn) : closedV (.agg w.cells.toArray) = true := rfl
theorem see_fn (w : Wn) (n : Int) (hn : 0 ≤ n ∧ n ≤ 4294967295) (hh : 0 ≤ w.h ∧ w.h ≤ 4294967295) (H : Heap) :
    Sx.Fn Try.prog 11 [.agg w.cells.toArray, .int .i64 n] H fun r h => r = .tuple #[.agg (see w n).cells.toArray, .bool (!(see w n).eqb w)] ∧ h = H :=
  Fn.overW (by simp only [List.all_cons, List.all_nil, Wn.plain, Bool.and_true]; rfl) (by simp [closedW, closedV, Wn.cells, closed1]) (see_fn0 T hm w n hn hh) H
omit T hm in
/-- What moves alike. -/
def Alk (far : Int) (v w : Wn) : Prop := v.a = w.a ∧ v.s = w.s ∧ (v.a = true → v.h + far = w.h) ∧ (v.a = false → v.h = 0 ∧ w.h = 0) ∧ (0 ≤ v.h ∧ v.h ≤ 65535) ∧ (0 ≤ w.h ∧ w.h ≤ 4294967295)
omit T hm in
theorem see_alike (far n : Int) (v w : Wn) (h : Alk far v w) (hn : 0 ≤ n ∧ n ≤ 65535) (hf : 0 ≤ far ∧ far ≤ 4294901759) :
    Alk far (see v n) (see w (n + far)) ∧ (see v n).eqb v = (see w (n + far)).eqb w := by
  obtain ⟨a, vh, s⟩ := v
  obtain ⟨b, wh, t⟩ := w
  obtain ⟨h1, h2, h3, h4, h5, h6⟩ := h
  simp only at h1 h2 h3 h4 h5 h6
  subst h1; subst h2
  cases a with
  | false =>
    obtain ⟨rfl, rfl⟩ := h4 rfl
    simp [see, Alk, Wn.eqb]
    omega
  | true =>
    have h3 := h3 rfl
    subst h3
    have e1 : n + far - (vh + far) = n - vh := by omega
    have e2 : vh + far - (n + far) = vh - n := by omega
    simp only [see, Bool.true_eq_false, false_or, e1, e2]
    by_cases c1 : vh ≤ n - 64
    · have d1 : vh + far ≤ n + far - 64 := by omega
      rw [if_pos c1, if_pos d1]
      refine ⟨⟨rfl, rfl, fun _ => rfl, fun h => (by cases h), by simp only; omega, by simp only; omega⟩, ?_⟩
      have p1 : (n == vh) = false := by simp; omega
      have p2 : (n + far == vh + far) = false := by simp; omega
      simp [Wn.eqb, p1, p2]
    · have d1 : ¬ vh + far ≤ n + far - 64 := by omega
      rw [if_neg c1, if_neg d1]
      by_cases c2 : vh < n
      · have d2 : vh + far < n + far := by omega
        rw [if_pos c2, if_pos d2]
        refine ⟨⟨rfl, rfl, fun _ => rfl, fun h => (by cases h), by simp only; omega, by simp only; omega⟩, ?_⟩
        have p1 : (n == vh) = false := by simp; omega
        have p2 : (n + far == vh + far) = false := by simp; omega
        simp [Wn.eqb, p1, p2]
      · have d2 : ¬ vh + far < n + far := by omega
        rw [if_neg c2, if_neg d2]
        by_cases c3 : vh - n < 64
        · rw [if_pos c3, if_pos c3]
          exact ⟨⟨rfl, rfl, fun _ => rfl, fun h => (by cases h), h5, h6⟩, by simp [Wn.eqb]⟩
        · rw [if_neg c3, if_neg c3]
          exact ⟨⟨rfl, rfl, fun _ => rfl, fun h => (by cases h), h5, h6⟩, by simp [Wn.eqb]⟩
omit T hm in
theorem see1 : see ⟨false, 0, 0⟩ 5 = ⟨true, 5, 1⟩ := by decide +kernel
omit T hm in
theorem see2 : see ⟨true, 5, 1⟩ 7 = ⟨true, 7, 5⟩ := by decide +kernel
omit T hm in
theorem see3 : see ⟨true, 7, 5⟩ 6 = ⟨true, 7, 7⟩ := by decide +kernel
omit T hm in
theorem see4 : see ⟨true, 7, 5⟩ 7 = ⟨true, 7, 5⟩ := by decide +kernel
theorem shown10_fn0 : Sx.Fn Try.prog 10 [] [] fun r _ => r = .bool true := by
  refine fn_start T Try.func10 rfl (by kernel_rfl) Try.results10 Try.ntmps10 (by simp) ?_
  intro Q hQ
  simp only [argTm]
  refine cw_step T xw [] fun K1 hK1 => ?_
  simp
  refine hK1 _ ?_; clear hK1 K1
  refine cw_step T xw [1] fun K2 hK2 => ?_
  simp
  refine CallK.of (see_fn T hm ⟨false, 0, 0⟩ 5 (by omega) (by simp) _) ?_
  rintro _ _ ⟨rfl, rfl⟩
  rw [see1]
  simp [Wn.cells, Wn.eqb]
  refine hK2 _ ?_; clear hK2 K2
  refine cw_step T xw [3, 4] fun K3 hK3 => ?_
  simp
  refine CallK.of (see_fn T hm ⟨true, 5, 1⟩ 7 (by omega) (by simp) _) ?_
  rintro _ _ ⟨rfl, rfl⟩
  rw [see2]
  simp [Wn.cells, Wn.eqb]
  refine hK3 _ ?_; clear hK3 K3
  refine cw_step T xw [3, 4, 6] fun K4 hK4 => ?_
  simp
  refine CallK.of (see_fn T hm ⟨true, 7, 5⟩ 6 (by omega) (by simp) _) ?_
  rintro _ _ ⟨rfl, rfl⟩
  rw [see3]
  simp [Wn.cells, Wn.eqb]
  refine hK4 _ ?_; clear hK4 K4
  refine cw_step T xw [3, 4, 6, 8] fun K5 hK5 => ?_
  simp
  refine CallK.of (see_fn T hm ⟨true, 7, 5⟩ 7 (by omega) (by simp) _) ?_
  rintro _ _ ⟨rfl, rfl⟩
  rw [see4]
  simp [Wn.cells, Wn.eqb]
  refine hK5 _ ?_; clear hK5 K5
  refine cw_step T xw [0] fun K6 hK6 => ?_
  simp
  refine hK6 _ ?_; clear hK6 K6
  exact cw_ret (hQ _ (.bool true) _ _ (resC_one (by simp)) (Ret.refl _ _ _) rfl).2
theorem shown10_fn (H : Heap) : Sx.Fn Try.prog 10 [] H fun r h => r = .bool true ∧ h = H :=
  fn_plain rfl rfl (shown10_fn0 T hm) (fun _ _ h => h) H
end Go.Proofs
