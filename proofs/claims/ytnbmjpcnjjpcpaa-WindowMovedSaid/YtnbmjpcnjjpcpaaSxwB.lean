/-
  Walks by Sx; no condition beyond those that stand in each statement.
-/
import Derived.Test.YtnbmjpcnjjpcpaaSxwA
import Derived.Test.YtnbmjpcnjjpcpaaSxO
namespace Go.Proofs
open Go Go.Sx
set_option maxRecDepth 100000
attribute [local simp] xw setL_all
variable (T : TyOk Try.prog (tyOf Try.prog Try.eqs)) (hm : Try.prog.follows .mixedOrders = true)
theorem agree_sw (H A B : Heap) : Agree (H ++ A) (H ++ B) = Agree A B := by
  induction H with
  | nil => rfl
  | cons b H ih => simp only [List.cons_append, agree_cons, ih]
attribute [local simp] agree_sw
/-- Small numbers, as cells. -/
def w16 (l : List Nat) : List Value := l.map fun (x : Nat) => .int .u16 x
/-- A row of small numbers. -/
def Row16 (H : Heap) (a : Option Addr) (n : Nat) (l : List Nat) : Prop :=
  l.length = n ∧ (∀ x ∈ l, x < 65536) ∧ ((a = none ∧ n = 0) ∨ ∃ i k cs o u, a = some ⟨i, k, none⟩ ∧ hget H i = some (.cells cs o u) ∧ k + n ≤ cs.length ∧ ∀ j (hj : j < l.length), cs[k + j]? = some (.int .u16 (l[j] : Nat)))
theorem Wn.cells_length (w : Wn) : w.cells.length = 3 := Eq.trans rfl rfl
theorem Wn.one1 (w : Wn) : w.cells.all one1 = true := rfl
include T hm
theorem windowMoved_fn (l : List Nat) (n c : Nat) (a : Option Addr) (hn9 : n ≤ 9223372036854775807) (by' : Nat) (hby : by' < 4294967296) (H : Heap) (hr : Row16 H a n l) :
    Sx.Fn Try.prog 4 [.slice a n c, .int .u32 by'] H fun r _ => r = .bool true := by
  refine fn_start T Try.func4 rfl (by kernel_rfl) Try.results4 Try.ntmps4 (by simp) ?_
  intro Q hQ
  simp only [argTm]
  refine cw_step T xw [0, 1] fun K1 hK1 => ?_
  simp
  refine hK1 _ ?_; clear hK1 K1
  refine cw_step T xw [0, 1, 5] fun K2 hK2 => ?_
  simp
  refine CallK.of (shown10_fn T hm _) ?_
  rintro _ hx ⟨rfl, he⟩
  replace he := he.symm
  subst he
  simp
  refine hK2 _ ?_; clear hK2 K2
  refine cw_step T xw [0, 1, 5, 6] fun K3 hK3 => ?_
  simp
  refine hK3 _ ?_; clear hK3 K3
  refine cw_step T xw [0, 1, 5, 6, 7] fun K4 hK4 => ?_
  simp
  refine hK4 _ ?_; clear hK4 K4
  refine cw_step T xw [0, 5, 6, 7, 8] fun K5 hK5 => ?_
  simp
  obtain ⟨far, hfar, hf1⟩ : ∃ far : Int, far = (by' : Int) % 4294901760 ∧ 0 ≤ far ∧ far ≤ 4294901759 := ⟨_, rfl, by omega, by omega⟩
  rw [← hfar]
  refine ⟨by omega, ?_⟩
  refine hK5 _ ?_; clear hK5 K5
  refine cw_seq fun K6 hK6 => ?_
  refine cw_step T xw [0, 5, 6, 7, 8, 9] fun K7 hK7 => ?_
  simp
  refine hK7 _ ?_; clear hK7 K7
  refine cw_block ?_
  refine cw_while (fun q s => ∃ i L v w, q = n - i ∧ i ≤ n ∧ Alk far v w ∧ s = ⟨[(0, .v (.slice a n c)), (5, .v (.bool true)), (6, .v (.pointer (some ⟨H.length, 0, none⟩))), (7, .v (.pointer (some ⟨H.length + 1, 0, none⟩))), (8, .v (.int .i64 far)), (9, .v (.int .i64 i))], H ++ (some (.cells v.cells true 0) :: some (.cells w.cells true 0) :: L)⟩) n ⟨0, [], ⟨false, 0, 0⟩, ⟨false, 0, 0⟩, by omega, by omega, ⟨rfl, rfl, fun h => (by cases h), fun _ => ⟨rfl, rfl⟩, ⟨by decide, by decide⟩, ⟨by decide, by decide⟩⟩, by rfl⟩ ?_
  rintro q s ⟨i, L, v, w, rfl, hi, hal, rfl⟩
  refine cw_seq fun K8 hK8 => ?_
  refine cw_step T xw [0, 5, 6, 7, 8, 9, 27] fun K9 hK9 => ?_
  simp
  have g9 : K9 ⟨[(0, .v (.slice a n c)), (5, .v (.bool true)), (6, .v (.pointer (some ⟨H.length, 0, none⟩))), (7, .v (.pointer (some ⟨H.length + 1, 0, none⟩))), (8, .v (.int .i64 far)), (9, .v (.int .i64 i)), (27, .v (.bool (decide (i < n ∧ i < 100))))], H ++ (some (.cells v.cells true 0) :: some (.cells w.cells true 0) :: L)⟩ := by
    refine hK9 _ ?_; clear hK9 K9
    refine cw_cond rfl (fun hc => ?_) (fun hc => ?_)
    · have hc : i < n ∧ i < 100 := by simpa using hc
      obtain ⟨h1, h2, h3⟩ := hr
      have hin : i < l.length := by omega
      rcases h3 with ⟨_, h0⟩ | ⟨bi, kk, cs, o, u, rfl, hg, hk, hel⟩
      · omega
      have hei := hel i hin
      have hx5 := h2 l[i] (List.getElem_mem _)
      obtain ⟨x, hx⟩ : ∃ x, x = l[i] := ⟨_, rfl⟩
      rw [← hx] at hei hx5
      have hvl := v.cells_length
      have hwl := w.cells_length
      have hv1 := v.one1
      have hw1 := w.one1
      have hvt : v.cells.take 3 = v.cells := List.take_of_length_le (by omega)
      have hwt : w.cells.take 3 = w.cells := List.take_of_length_le (by omega)
      obtain ⟨hal2, heq⟩ := see_alike far x v w hal (by omega) hf1
      obtain ⟨a1, a2, a3, a4, a5, a6⟩ := hal
      refine cw_skip ?_
      refine hK8 _ ?_; clear hK8
      refine cw_seq fun K10 hK10 => ?_
      refine cw_block ?_
      refine cw_draw T hm xw [0, 5, 6, 7, 8, 9, 10, 11] (.soft 0 true <| .soft 1 false <| .soft 2 false <| .soft 3 false <| .soft 4 true <| .soft 5 true <| .alt 6 true (.soft 7 false <| .soft 8 false <| .soft 9 false <| .alt 10 true (.alt 11 false (.soft 12 false <| .stop) (.stop)) (.stop)) (.alt 10 true (.alt 6 true (.soft 7 false <| .soft 8 false <| .soft 9 false <| .alt 11 false (.soft 12 false <| .stop) (.stop)) (.stop)) (.stop))) (by kernel_rfl) fun K11 hK11 => ?_
      obtain ⟨V, hV⟩ : ∃ V, V = see v x := ⟨_, rfl⟩
      obtain ⟨W, hW⟩ : ∃ W, W = see w (x + far) := ⟨_, rfl⟩
      rw [← hV, ← hW] at hal2 heq
      have hVl := V.cells_length
      have hWl := W.cells_length
      have hVt : V.cells.take 3 = V.cells := List.take_of_length_le (by omega)
      have hWt : W.cells.take 3 = W.cells := List.take_of_length_le (by omega)
      have hV1 := V.one1
      have hW1 := W.one1
      have g11 : K11 ⟨[(0, .v (.slice (some ⟨bi, kk, none⟩) n c)), (5, .v (.bool true)), (6, .v (.pointer (some ⟨H.length, 0, none⟩))), (7, .v (.pointer (some ⟨H.length + 1, 0, none⟩))), (8, .v (.int .i64 far)), (9, .v (.int .i64 i)), (10, .v (.pointer (some ⟨H.length + (L.length + 1 + 1), 0, none⟩))), (11, .v (.bool (!V.eqb v)))], H ++ (some (.cells v.cells true 0) :: some (.cells w.cells true 0) :: (L ++ [some (.cells V.cells true 0)]))⟩ := by
        refine hK11 _ ?_; clear hK11 K11
        refine cw_draw T hm xw [0, 5, 6, 7, 8, 9, 10, 11, 12, 13] (.soft 0 true <| .soft 1 false <| .soft 2 false <| .soft 3 false <| .soft 4 true <| .soft 5 true <| .soft 6 false <| .soft 7 false <| .alt 8 true (.soft 9 false <| .soft 10 false <| .soft 11 false <| .alt 12 true (.alt 13 false (.soft 14 false <| .stop) (.stop)) (.stop)) (.alt 12 true (.alt 8 true (.soft 9 false <| .soft 10 false <| .soft 11 false <| .alt 13 false (.soft 14 false <| .stop) (.stop)) (.stop)) (.stop))) (by kernel_rfl) fun K12 hK12 => ?_
        have g12 : K12 ⟨[(0, .v (.slice (some ⟨bi, kk, none⟩) n c)), (5, .v (.bool true)), (6, .v (.pointer (some ⟨H.length, 0, none⟩))), (7, .v (.pointer (some ⟨H.length + 1, 0, none⟩))), (8, .v (.int .i64 far)), (9, .v (.int .i64 i)), (10, .v (.pointer (some ⟨H.length + (L.length + 1 + 1), 0, none⟩))), (11, .v (.bool (!V.eqb v))), (12, .v (.pointer (some ⟨H.length + (L.length + 1 + 1 + 1), 0, none⟩))), (13, .v (.bool (!W.eqb w)))], H ++ (some (.cells v.cells true 0) :: some (.cells w.cells true 0) :: (L ++ [some (.cells V.cells true 0), some (.cells W.cells true 0)]))⟩ := by
          refine hK12 _ ?_; clear hK12 K12
          obtain ⟨c1, c2, c3, c4, c5, c6⟩ := hal2
          refine cw_seq fun K13 hK13 => ?_
          refine cw_step T xw [0, 5, 6, 7, 8, 9, 10, 12, 74] fun K14 hK14 => ?_
          have g14 : K14 ⟨[(0, .v (.slice (some ⟨bi, kk, none⟩) n c)), (5, .v (.bool true)), (6, .v (.pointer (some ⟨H.length, 0, none⟩))), (7, .v (.pointer (some ⟨H.length + 1, 0, none⟩))), (8, .v (.int .i64 far)), (9, .v (.int .i64 i)), (10, .v (.pointer (some ⟨H.length + (L.length + 1 + 1), 0, none⟩))), (12, .v (.pointer (some ⟨H.length + (L.length + 1 + 1 + 1), 0, none⟩))), (74, .v (.bool false))], H ++ (some (.cells v.cells true 0) :: some (.cells w.cells true 0) :: (L ++ [some (.cells V.cells true 0), some (.cells W.cells true 0)]))⟩ := by
            refine hK14 _ ?_; clear hK14 K14
            refine cw_cond rfl (fun hc => ?_) (fun hc => ?_)
            · cases hc
            · refine cw_skip ?_
              refine hK13 _ ?_; clear hK13
              refine cw_step T xw [0, 5, 6, 7, 8, 9, 12] fun K16 hK16 => ?_
              simp [hvl, hVl, hVt]
              refine ⟨List.all_eq_true.1 hV1, ?_⟩
              refine hK16 _ ?_; clear hK16 K16
              refine cw_last T xw [0, 5, 6, 7, 8, 9] fun K17 hK17 => ?_
              simp [hwl, hWl, hWt]
              refine ⟨List.all_eq_true.1 hW1, ?_⟩
              refine hK17 _ ?_; clear hK17 K17
              refine hK10 _ ?_; clear hK10
              refine cw_last T xw [0, 5, 6, 7, 8, 9] fun K18 hK18 => ?_
              simp
              refine ⟨by omega, ?_⟩
              refine hK18 _ ?_; clear hK18 K18
              refine round_end (n - (i + 1)) (by omega) ⟨i + 1, L ++ [some (.cells V.cells true 0), some (.cells W.cells true 0)], V, W, rfl, by omega, ⟨c1, c2, c3, c4, c5, c6⟩, ?_⟩ (by simp)
              rfl
          rw [heq]
          simp [Wn.cells]
          refine ⟨fun _ => ⟨fun ha => ⟨by omega, ?_⟩, fun ha => ?_⟩, fun h => absurd c2 h⟩
          · have e : decide (V.h + far = W.h) = true := by simp [c3 ha]
            rw [e]; exact g14
          · exact g14
        clear hK12
        simp [hget_old hg (some (.cells v.cells true 0) :: some (.cells w.cells true 0) :: (L ++ [some (.cells V.cells true 0)])), hei, hwl, hwt]
        refine ⟨by omega, by omega, by omega, ?_⟩
        repeat' (with_reducible refine And.intro ?_ ?_)
        all_goals
          refine CallK.of (see_fn T hm w (x + far) (by omega) (by omega) _) ?_
          rintro _ _ ⟨rfl, rfl⟩
          rw [← hW]
          simp [hWl, hWt, hW1]
          exact g12
      clear hK11
      simp [hget_old hg (some (.cells v.cells true 0) :: some (.cells w.cells true 0) :: L), hei, hvl, hvt]
      refine ⟨by omega, by omega, ?_⟩
      repeat' (with_reducible refine And.intro ?_ ?_)
      all_goals
        refine CallK.of (see_fn T hm v x (by omega) (by omega) _) ?_
        rintro _ _ ⟨rfl, rfl⟩
        rw [← hV]
        simp [hVl, hVt, hV1]
        exact g11
    · try simp at hc
      refine cw_exit ?_
      refine hK6 _ ?_; clear hK6
      refine cw_step T xw [4] fun K19 hK19 => ?_
      simp
      refine hK19 _ ?_; clear hK19 K19
      exact cw_ret (hQ _ (.bool true) _ _ (resC_one (by simp)) (Ret.plain rfl) rfl).2
  refine ⟨fun h => ?_, fun h => ?_⟩
  · have e : decide ((i : Int) < 100) = decide (i < n ∧ i < 100) := by
      congr 1
      apply propext
      omega
    rw [e]; exact g9
  · have e : decide (i < n ∧ i < 100) = false := by simp; omega
    rw [e] at g9; exact g9
end Go.Proofs
namespace Go.Proofs
open Go Go.Sx
set_option maxRecDepth 100000
theorem u16_list : ∀ (l : List Value), (∀ j, j < l.length → ∃ n, (l.drop j).take 1 = [.int .u16 n] ∧ (Lit.int .u16 n).wf = true) → ∃ bs : List Nat, bs.length = l.length ∧ (∀ x ∈ bs, x < 65536) ∧ ∀ j (hj : j < bs.length), l[j]? = some (.int .u16 (bs[j] : Nat))
  | [], _ => ⟨[], rfl, by simp, fun j hj => by simp at hj⟩
  | x :: r, h => by
    obtain ⟨n, h1, h2⟩ := h 0 (by simp)
    simp at h1; subst h1
    obtain ⟨bs, e1, e2, e3⟩ := u16_list r fun j hj => by simpa using h (j + 1) (by simpa using hj)
    simp only [Lit.wf, IntKind.min, IntKind.max, IntKind.signed, IntKind.bits, Bool.and_eq_true, decide_eq_true_eq] at h2
    simp at h2
    obtain ⟨v, rfl⟩ : ∃ v : Nat, n = v := ⟨n.toNat, by omega⟩
    refine ⟨v :: bs, by simp [e1], fun y hy => ?_, fun j hj => ?_⟩
    · rcases List.mem_cons.1 hy with rfl | hy
      · omega
      · exact e2 y hy
    · cases j with
      | zero => simp
      | succ j => simpa using e3 j (by simpa using hj)
theorem typ_16 {h : Heap} {x : Value} {f : Nat} (q : TypV Try.prog h (f + 2) 22 x) : ∃ a n c l, x = .slice a n c ∧ n ≤ 9223372036854775807 ∧ Row16 h a n l := by
  unfold TypV at q
  rw [Try.underlying22] at q
  simp only at q
  unfold Typ at q
  rw [Try.underlying22] at q
  have hc : Try.prog.cellsOf 29 = 1 := by kernel_rfl
  simp only [hc, Nat.mul_one] at q
  rcases q with q | ⟨i, len, cap, l, h1, h2, h3, h4, h5, h6⟩
  · simp at q; subst q
    exact ⟨none, 0, 0, [], rfl, by omega, rfl, by simp, .inl ⟨rfl, rfl⟩⟩
  · simp at h1; subst h1
    obtain ⟨bs, e1, e2, e3⟩ := u16_list l fun j hj => by
      have := h6 j (by omega)
      unfold Typ at this
      rw [Try.underlying29] at this
      exact this
    refine ⟨_, len, cap, bs.take len, rfl, Nat.le_trans h2 h3, by simp; omega, fun y hy => e2 y (List.mem_of_mem_take hy), .inr ⟨i, 0, l, false, 0, rfl, h4, by omega, fun j hj => ?_⟩⟩
    rw [Nat.zero_add, e3 j (by simp at hj; omega)]
    simp
theorem typ_w32 {h : Heap} {x : Value} {f : Nat} (q : TypV Try.prog h (f + 1) 23 x) : ∃ n : Nat, x = .int .u32 n ∧ n < 4294967296 := by
  unfold TypV at q
  rw [Try.underlying23] at q
  simp only at q
  unfold Typ at q
  rw [Try.underlying23] at q
  simp only at q
  obtain ⟨n, hx, w⟩ := q
  simp only [List.cons.injEq, and_true] at hx
  subst hx
  simp only [Lit.wf, Bool.and_eq_true, decide_eq_true_eq, IntKind.min, IntKind.max, IntKind.bits, IntKind.signed] at w
  simp at w
  exact ⟨n.toNat, by congr 1; omega, by omega⟩
theorem windowMoved_law (hm : Try.prog.follows .mixedOrders = true) {h : Heap} {x0 x1 : Value} (t0 : TypV Try.prog h 4 22 x0) (t1 : TypV Try.prog h 4 23 x1) :
    Sx.Fn Try.prog 4 [x0, x1] h fun v _ => v = .bool true := by
  obtain ⟨a, n, c, l, rfl, hn, hr⟩ := typ_16 t0
  obtain ⟨b, rfl, hb⟩ := typ_w32 t1
  exact windowMoved_fn T_tryW hm l n c a hn b hb h hr
end Go.Proofs
