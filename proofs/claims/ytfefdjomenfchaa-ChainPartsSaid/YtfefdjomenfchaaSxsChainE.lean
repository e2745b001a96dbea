/-
  Walks by Sx; no condition beyond those that stand in each statement.
-/
import Derived.Test.YtfefdjomenfchaaSxsChainD
namespace Go.Proofs
open Go Go.Sx
set_option maxRecDepth 100000
attribute [local simp] xs setL_all rc_one1
variable (T : TyOk Try.prog (tyOf Try.prog Try.eqs)) (hm : Try.prog.follows .mixedOrders = true)
@[simp] theorem agree_same (H A B : Heap) : Agree (H ++ A) (H ++ B) = Agree A B := by
  induction H with
  | nil => rfl
  | cons b H ih => simp only [List.cons_append, agree_cons, ih]
/-- Records, cell by cell. -/
def recs (l : List Rc) : List Value := l.flatMap Rc.cells
@[simp] theorem recs_length (l : List Rc) : (recs l).length = 6 * l.length := by
  induction l with
  | nil => rfl
  | cons r l ih => simp only [recs, List.flatMap_cons, List.length_append, List.length_cons] at *; rw [ih, rc_length]; omega
theorem recs_app (l m : List Rc) : recs (l ++ m) = recs l ++ recs m := by simp [recs]
@[simp] theorem recs_one1 (l : List Rc) : (recs l).all one1 = true := by
  induction l with
  | nil => rfl
  | cons r l ih => simp only [recs, List.flatMap_cons, List.all_append] at *; rw [ih]; rfl
theorem recs_at : ∀ (l : List Rc) (j : Nat) (h : j < l.length), ((recs l).drop (6 * j)).take 6 = l[j].cells
  | r :: l, 0, _ => by simp [recs, List.take_append, List.take_of_length_le (Nat.le_of_eq (rc_length r))]
  | r :: l, j + 1, h => by
    have ih := recs_at l j (by simpa using h)
    have e : 6 * (j + 1) = r.cells.length + 6 * j := by rw [rc_length]; omega
    rw [show recs (r :: l) = r.cells ++ recs l from rfl, e, ← List.drop_drop, List.drop_left, ih]
    rfl
theorem recs_take : ∀ (l : List Rc) (j : Nat), (recs l).take (6 * j) = recs (l.take j)
  | [], j => by simp [recs]
  | r :: l, 0 => by simp [recs]
  | r :: l, j + 1 => by
    have e : 6 * (j + 1) = r.cells.length + 6 * j := by rw [rc_length]; omega
    rw [show recs (r :: l) = r.cells ++ recs l from rfl, e, List.take_length_add_append, recs_take l j]
    rfl
/-- A row of records, whole. -/
def RecRowF (H : Heap) (a : Option Addr) (n : Nat) (l : List Rc) : Prop :=
  l.length = n ∧ ((a = none ∧ n = 0) ∨ ∃ i cs o u, a = some ⟨i, 0, none⟩ ∧ hget H i = some (.cells cs o u) ∧ 6 * n ≤ cs.length ∧ cs.take (6 * n) = recs l)
theorem RecRowF.mono {H : Heap} {a : Option Addr} {n : Nat} {l : List Rc} (r : RecRowF H a n l) (L : Heap) : RecRowF (H ++ L) a n l := by
  obtain ⟨h1, h2⟩ := r
  refine ⟨h1, ?_⟩
  rcases h2 with h | ⟨i, cs, o, u, e, hc, h5, h6⟩
  · exact .inl h
  · exact .inr ⟨i, cs, o, u, e, hget_old hc L, h5, h6⟩
theorem RecRowF.row {H : Heap} {a : Option Addr} {n : Nat} {l : List Rc} (r : RecRowF H a n l) : RecRow H a n l := by
  obtain ⟨h1, h2⟩ := r
  refine ⟨h1, ?_⟩
  rcases h2 with h | ⟨i, cs, o, u, e, hc, h5, h6⟩
  · exact .inl h
  · refine .inr ⟨i, 0, cs, o, u, e, hc, by omega, fun j hj => ?_⟩
    rw [← recs_at l j hj, ← h6, List.drop_take, List.take_take]
    congr 1
    · omega
    · simp
theorem RecRowF.take {H : Heap} {a : Option Addr} {n : Nat} {l : List Rc} (r : RecRowF H a n l) (k : Nat) (hk : k ≤ n) : RecRowF H a k (l.take k) := by
  obtain ⟨h1, h2⟩ := r
  refine ⟨by simp; omega, ?_⟩
  rcases h2 with h | ⟨i, cs, o, u, e, hc, h5, h6⟩
  · exact .inl ⟨h.1, by omega⟩
  · refine .inr ⟨i, cs, o, u, e, hc, by omega, ?_⟩
    rw [← recs_take, ← h6, List.take_take]
    congr 1
    omega
theorem RecRowF.of {H : Heap} {a : Option Addr} {n c : Nat} {l : List Rc} (r : RecRowF H a n l) (hc : n ≤ c) : rowOf 6 H (.slice a n c) = some (recs l) := by
  obtain ⟨h1, h2⟩ := r
  rcases h2 with ⟨rfl, rfl⟩ | ⟨i, cs, o, u, rfl, hc, h5, h6⟩
  · cases List.eq_nil_of_length_eq_zero h1
    simp [recs]
  · simp [hc]
    rw [Nat.mul_comm]
    exact ⟨h5, h6⟩
include T
theorem law23_few_fn (a : Option Addr) (n c : Nat) (hnc : n ≤ c) (hc : c ≤ 9223372036854775807) (l : List Rc) (H : Heap) (hr : RecRowF H a n l) :
    Sx.Fn Try.prog 24 [.slice a n c] H fun r h => (r = .slice a (min n 20) c) ∧ h = H := by
  refine fn_start T Try.func24 rfl (by kernel_rfl) Try.results24 Try.ntmps24 (by simp) ?_
  intro Q hQ
  simp only [argTm]
  refine cw_step T xs [0] fun K1 hK1 => ?_
  simp
  refine hK1 _ ?_; clear hK1 K1
  obtain ⟨h1, h2⟩ := hr
  have hco : c ≠ OPEN := by unfold OPEN; omega
  rcases h2 with ⟨rfl, rfl⟩ | ⟨i, cs, o, u, rfl, hc, h5, h6⟩
  · refine cw_step T xs [2] fun K2 hK2 => ?_
    simp [hco]
    refine hK2 _ ?_; clear hK2 K2
    exact cw_ret (hQ _ (.slice none (min 0 20) c) _ _ (resC_one (by simp)) (Ret.refl _ _ _) ⟨rfl, rfl⟩).2
  · refine cw_step T xs [2] fun K2 hK2 => ?_
    have hmn : (if (20 : Int) < (n : Int) then (20 : Int) else (n : Int)) = ((min n 20 : Nat) : Int) := by split <;> omega
    simp [hco, hmn]
    refine ⟨by omega, ?_⟩
    refine hK2 _ ?_; clear hK2 K2
    exact cw_ret (hQ _ (.slice (some ⟨i, 0, none⟩) (min n 20) c) _ _ (resC_one (by simp)) (Ret.refl _ _ _) ⟨rfl, rfl⟩).2
include hm
theorem law23_ChainParts_fn (a b : Option Addr) (n m c d : Nat) (hnc : n ≤ c) (hmd : m ≤ d) (hc : c ≤ 9223372036854775807) (hd : d ≤ 9223372036854775807) (l0 k0 : List Rc) (H : Heap) (hr0 : RecRowF H a n l0) (hs0 : RecRowF H b m k0) :
    Sx.Fn Try.prog 6 [.slice a n c, .slice b m d] H fun r _ => r = .bool true := by
  refine fn_start T Try.func6 rfl (by kernel_rfl) Try.results6 Try.ntmps6 (by simp) ?_
  intro Q hQ
  simp only [argTm]
  refine cw_step T xs [0, 1] fun K1 hK1 => ?_
  simp
  refine hK1 _ ?_; clear hK1 K1
  refine cw_step T xs [0, 1, 5] fun K2 hK2 => ?_
  simp
  refine CallK.of (law23_shown_fn T hm _) ?_
  rintro _ hx ⟨rfl, he⟩
  replace he := he.symm
  subst he
  simp
  refine hK2 _ ?_; clear hK2 K2
  refine cw_step T xs [1, 5, 6] fun K3 hK3 => ?_
  simp
  refine CallK.of (law23_few_fn T a n c hnc hc l0 _ hr0) ?_
  rintro _ hx ⟨rfl, he⟩
  replace he := he.symm
  subst he
  simp
  refine hK3 _ ?_; clear hK3 K3
  refine cw_step T xs [5, 6, 7] fun K4 hK4 => ?_
  simp
  refine CallK.of (law23_few_fn T b m d hmd hd k0 _ hs0) ?_
  rintro _ hx ⟨rfl, he⟩
  replace he := he.symm
  subst he
  simp
  refine hK4 _ ?_; clear hK4 K4
  obtain ⟨l, hl⟩ : ∃ l, l = l0.take (min n 20) := ⟨_, rfl⟩
  obtain ⟨k, hk⟩ : ∃ k, k = k0.take (min m 20) := ⟨_, rfl⟩
  have hr : RecRowF H a (min n 20) l := hl ▸ hr0.take (min n 20) (by omega)
  have hs : RecRowF H b (min m 20) k := hk ▸ hs0.take (min m 20) (by omega)
  have hn20 : min n 20 ≤ 20 := by omega
  have hm20 : min m 20 ≤ 20 := by omega
  have hnc' : min n 20 ≤ c := by omega
  have hmd' : min m 20 ≤ d := by omega
  generalize min n 20 = n' at *
  generalize min m 20 = m' at *
  clear hr0 hs0 hl hk hnc hmd
  refine cw_step T xs [5, 6, 7, 8] fun K5 hK5 => ?_
  simp
  refine CallK.of (chain_Of_fn T hm l n' (by omega) _ _ _ hr.row) ?_
  rintro _ hx ⟨rfl, he⟩
  replace he := he.symm
  subst he
  have hhl : (headL zero32 l).length = 32 := headL_length l zero32 (by rfl)
  simp [hhl, show zero32.length = 32 from rfl]
  refine hK5 _ ?_; clear hK5 K5
  refine cw_seq fun K6 hK6 => ?_
  refine cw_step T xs [5, 6, 7, 8, 9] fun K7 hK7 => ?_
  simp
  refine hK7 _ ?_; clear hK7 K7
  refine cw_block ?_
  refine cw_while (fun w s => ∃ i L, w = m' - i ∧ i ≤ m' ∧ s = ⟨[(5, .v (.bool true)), (6, .v (.slice a n' c)), (7, .v (.slice b m' d)), (8, .v (.pointer (some ⟨H.length, 0, none⟩))), (9, .v (.int .i64 i))], H ++ (some (.cells (u8s (headL zero32 (l ++ k.take i))) true 0) :: L)⟩) m' ⟨0, [], by omega, by omega, by simp⟩ ?_
  rintro w s ⟨i, L, rfl, hi, rfl⟩
  refine cw_seq fun K8 hK8 => ?_
  refine cw_step T xs [5, 6, 7, 8, 9, 22] fun K9 hK9 => ?_
  simp
  refine hK9 _ ?_; clear hK9 K9
  refine cw_cond rfl (fun hc => ?_) (fun hc => ?_)
  · try simp at hc
    have him : i < k.length := by rw [hs.1]; exact hc
    obtain ⟨hkl, h2⟩ := hs.row
    rcases h2 with ⟨_, h0⟩ | ⟨bi, kk, cs, o, u, rfl, hg, hkk, hel⟩
    · omega
    have hei := hel i him
    obtain ⟨cur, hcur⟩ : ∃ cur, cur = headL zero32 (l ++ k.take i) := ⟨_, rfl⟩
    have hcl : cur.length = 32 := by rw [hcur]; exact headL_length (l ++ k.take i) zero32 (by rfl)
    have hct : cur.take 32 = cur := List.take_of_length_le (by omega)
    have hct42 : cur.take 42 = cur := List.take_of_length_le (by omega)
    rw [← hcur]
    have hm6 : i * 6 = 6 * i := by omega
    refine cw_skip ?_
    refine hK8 _ ?_; clear hK8
    refine cw_seq fun K10 hK10 => ?_
    refine cw_block ?_
    refine cw_step T xs [5, 6, 7, 8, 9, 10] fun K11 hK11 => ?_
    simp [hget_old hg (some (.cells (u8s cur) true 0) :: L), hm6, hei]
    refine ⟨by omega, by omega, ?_⟩
    refine CallK.of (chain_Bytes_fn T k[i] _) ?_
    rintro _ _ ⟨rfl, rfl⟩
    simp
    refine hK11 _ ?_; clear hK11 K11
    obtain ⟨r, hrr⟩ : ∃ r, r = k[i] := ⟨_, rfl⟩
    rw [← hrr]
    have hbl : (cur ++ recB r).length = 42 := by simp [hcl]
    have hrt : (recB r).take 10 = recB r := List.take_of_length_le (by simp)
    obtain ⟨S, hS⟩ : ∃ S, S = sumL (cur ++ recB r) := ⟨_, rfl⟩
    have hSl : S.length = 32 := by rw [hS]; exact sumL_length _
    have hSt : S.take 32 = S := List.take_of_length_le (by omega)
    have hNx : nextL cur r = S := by rw [hS]; rfl
    refine cw_draw T hm xs [5, 6, 7, 8, 9, 11] (.soft 1 true <| .soft 3 true <| .alt 0 true (.alt 2 true (.alt 4 true (.alt 5 true (.alt 6 true (.alt 7 false (.stop) (.stop)) (.stop)) (.alt 6 true (.alt 5 true (.alt 7 false (.stop) (.stop)) (.stop)) (.stop))) (.alt 6 true (.alt 4 true (.alt 5 true (.alt 7 false (.stop) (.stop)) (.stop)) (.stop)) (.stop))) (.alt 6 true (.alt 2 true (.alt 4 true (.alt 5 true (.alt 7 false (.stop) (.stop)) (.stop)) (.stop)) (.stop)) (.stop))) (.alt 6 true (.alt 0 true (.alt 2 true (.alt 4 true (.alt 5 true (.alt 7 false (.stop) (.stop)) (.stop)) (.stop)) (.stop)) (.stop)) (.stop))) (by kernel_rfl) fun K12 hK12 => ?_
    have g : ∀ (M : Heap) (j : Nat), hget M j = some (.cells (u8s S) true 0) → L.length ≤ M.length → K12 ⟨[(5, .v (.bool true)), (6, .v (.slice a n' c)), (7, .v (.slice (some ⟨bi, kk, none⟩) m' d)), (8, .v (.pointer (some ⟨H.length, 0, none⟩))), (9, .v (.int .i64 i)), (11, .v (.pointer (some ⟨H.length + (j + 1), 0, none⟩)))],
        H ++ (some (.cells (u8s cur) true 0) :: M)⟩ := by
      intro M j hM hML
      refine hK12 _ ?_; clear hK12 K12
      refine cw_draw T hm xs [5, 6, 7, 8, 9, 11] (.soft 0 true <| .soft 1 false <| .soft 2 false <| .soft 3 false <| .soft 4 true <| .alt 5 false (.alt 6 false (.stop) (.stop)) (.stop)) (by kernel_rfl) fun K13 hK13 => ?_
      simp [hget_old hg (some (.cells (u8s cur) true 0) :: M), hm6, hei, hcl, hct]
      refine ⟨by omega, by omega, ?_⟩
      refine CallK.of (chain_Next_fn T hm cur hcl k[i] _) ?_
      rintro _ _ ⟨rfl, rfl⟩
      rw [← hrr, hNx]
      simp [hcl, hSl]
      refine hK13 _ ?_; clear hK13 K13
      refine cw_step T xs [5, 6, 7, 8, 9, 44] fun K14 hK14 => ?_
      simp [hM, hSl, hSt, flatEq_u8s]
      refine hK14 _ ?_; clear hK14 K14
      refine cw_cond rfl (fun hc => ?_) (fun hc => ?_)
      · cases hc
      · refine cw_skip ?_
        refine hK10 _ ?_; clear hK10
        refine cw_last T xs [5, 6, 7, 8, 9] fun K16 hK16 => ?_
        simp
        refine ⟨by omega, ?_⟩
        refine hK16 _ ?_; clear hK16 K16
        refine round_end (m' - (i + 1)) (by omega) ⟨i + 1, M, rfl, by omega, ?_⟩ (by simp [hML])
        rw [List.take_add_one, List.getElem?_eq_getElem him, Option.toList_some, ← List.append_assoc, headL_snoc, ← hcur, ← hrr, hNx]
        rfl
    clear hK12
    simp [hcl, hct, hrt]
    repeat' (with_reducible refine And.intro ?_ ?_)
    all_goals
      refine CallK.of (sha_Sum_l T hm (cur ++ recB r) 42 hbl (by omega) _ _ OPEN (by simp [hcl, hct42, hrt, List.take_append])) ?_
      rintro _ _ ⟨rfl, rfl⟩
      rw [← hS]
      simp [hSl, hSt]
      exact g _ _ (by simp) (by simp)
  · try simp at hc
    have hki : k.take i = k := List.take_of_length_le (by have := hs.1; omega)
    rw [hki]
    obtain ⟨cur, hcur⟩ : ∃ cur, cur = headL zero32 (l ++ k) := ⟨_, rfl⟩
    have hcl : cur.length = 32 := by rw [hcur]; exact headL_length (l ++ k) zero32 (by rfl)
    have hct : cur.take 32 = cur := List.take_of_length_le (by omega)
    rw [← hcur]
    have hrow1 := fun M => (hr.mono M).of hnc'
    have hrow2 := fun M => (hs.mono M).of hmd'
    have hll : l.length = n' := hr.1
    have hkl : k.length = m' := hs.1
    refine cw_exit ?_
    refine hK6 _ ?_; clear hK6
    refine cw_draw T hm xs [4] (.soft 0 false <| .soft 1 false <| .soft 2 true <| .soft 4 false <| .soft 6 false <| .alt 3 true (.alt 5 true (.alt 7 true (.alt 8 true (.soft 9 false <| .soft 10 false <| .soft 11 false <| .stop) (.stop)) (.stop)) (.stop)) (.stop)) (by kernel_rfl) fun K17 hK17 => ?_
    have b1 : n' * 48 ≤ 35184372088832 := by omega
    have b2 : n' ≤ 35184372088832 := by omega
    have b3 : m' * 48 ≤ 35184372088832 := by omega
    have b4 : m' ≤ 35184372088832 := by omega
    have b5 : (n' + m') * 48 ≤ 35184372088832 := by omega
    have b6 : n' + m' ≤ 35184372088832 := by omega
    have b7 : 6 * l.length = n' * 6 := by omega
    have b8 : 6 * k.length = m' * 6 := by omega
    have b9 : List.take (n' * 6) (recs l) = recs l := List.take_of_length_le (by simp; omega)
    rcases Nat.eq_zero_or_pos n' with h0 | h0 <;> rcases Nat.eq_zero_or_pos m' with h1 | h1
    · subst h0; subst h1
      cases List.eq_nil_of_length_eq_zero hll
      cases List.eq_nil_of_length_eq_zero hkl
      simp [hcl, hct, hrow1, hrow2, recs]
      refine CallK.of (chain_Of_fn T hm [] 0 (by omega) _ _ _ (RecRowF.row (l := []) ⟨rfl, .inr ⟨_, [], true, 0, rfl, by simp, by simp, rfl⟩⟩)) ?_
      rintro _ _ ⟨rfl, rfl⟩
      rw [show headL zero32 [] = cur from hcur.symm]
      simp [hcl, hct, flatEq_u8s]
      refine hK17 _ ?_; clear hK17 K17
      exact cw_ret (hQ _ (.bool true) _ _ (resC_one (by simp)) (Ret.refl _ _ _) rfl).2
    · have h1' : m' ≠ 0 := by omega
      subst h0
      cases List.eq_nil_of_length_eq_zero hll
      simp [hcl, hct, hrow1, hrow2, b3, b4, b8, h1']
      refine CallK.of (chain_Of_fn T hm k m' (by omega) _ _ _ (RecRowF.row ⟨hkl, .inr ⟨_, recs k, true, 6, rfl, by simp, by simp [hkl], List.take_of_length_le (by simp [hkl])⟩⟩)) ?_
      rintro _ _ ⟨rfl, rfl⟩
      rw [show headL zero32 k = cur from hcur.symm]
      simp [hcl, hct, flatEq_u8s]
      refine hK17 _ ?_; clear hK17 K17
      exact cw_ret (hQ _ (.bool true) _ _ (resC_one (by simp)) (Ret.plain rfl) rfl).2
    · have h0' : n' ≠ 0 := by omega
      subst h1
      cases List.eq_nil_of_length_eq_zero hkl
      simp [hcl, hct, hrow1, hrow2, h0', b1, b2, b7, b9]
      refine CallK.of (chain_Of_fn T hm (l ++ []) n' (by omega) _ _ _ (RecRowF.row ⟨by simpa using hll, .inr ⟨_, recs l ++ recs [], true, 6, rfl, by simp, by simp [hll], by rw [recs_app]; exact List.take_of_length_le (by simp [hll])⟩⟩)) ?_
      rintro _ _ ⟨rfl, rfl⟩
      rw [show headL zero32 (l ++ []) = cur from hcur.symm]
      simp [hcl, hct, flatEq_u8s]
      refine hK17 _ ?_; clear hK17 K17
      exact cw_ret (hQ _ (.bool true) _ _ (resC_one (by simp)) (Ret.plain rfl) rfl).2
    · have h0' : n' ≠ 0 := by omega
      have h1' : m' ≠ 0 := by omega
      simp [hcl, hct, hrow1, hrow2, h0', h1', b1, b2, b5, b6, b7, b8, b9]
      refine CallK.of (chain_Of_fn T hm (l ++ k) (n' + m') (by omega) _ _ _ (RecRowF.row ⟨by simp [hll, hkl], .inr ⟨_, recs l ++ recs k, true, 6, rfl, by simp, by simp [hll, hkl]; omega, by rw [recs_app]; exact List.take_of_length_le (by simp [hll, hkl]; omega)⟩⟩)) ?_
      rintro _ _ ⟨rfl, rfl⟩
      rw [show headL zero32 (l ++ k) = cur from hcur.symm]
      simp [hcl, hct, flatEq_u8s]
      refine hK17 _ ?_; clear hK17 K17
      exact cw_ret (hQ _ (.bool true) _ _ (resC_one (by simp)) (Ret.plain rfl) rfl).2
end Go.Proofs
