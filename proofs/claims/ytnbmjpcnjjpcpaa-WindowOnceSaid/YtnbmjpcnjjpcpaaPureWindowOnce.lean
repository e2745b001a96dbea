/-
  Of any numbers, one behind the other, just those are new to the window that were not new ahead and are less than 64 below the greatest one that was: for every list of numbers of 16 bits (100 are looked at) and every start of 32 bits; no condition.
-/
import Derived.Test.YtnbmjpcnjjpcpaaPWindowOncex4
import Derived.Laws.BitsLemmas
import Derived.Laws.BitsAllLaws
import Derived.KernelRfl
namespace Go.Proofs.Ytnbmjpcnjjpcpaa.Pure
open Go.RowKit Go.Proofs.Ytnbmjpcnjjpcpaa.PWindowOnce Go.Proofs.YtnbmjpcnjjpcpaaW.PrintWords Go.Proofs.YtnbmjpcnjjpcpaaW.PrintLast Go.Proofs.YtnbmjpcnjjpcpaaW.PrintMore
set_option maxRecDepth 100000
set_option linter.unusedVariables false

theorem wrap_id {x : Int} (h0 : -9223372036854775808 ≤ x) (h1 : x ≤ 9223372036854775807) : wrap64 x = x := by unfold wrap64; omega

theorem tb1 (d : Nat) : (1 : Nat).testBit d = decide (d = 0) := by
  cases d with
  | zero => rfl
  | succ d => simp [Nat.testBit_succ]
theorem see_start (k : Nat) (A : Bool) (h s n : Int) (h0 : 0 ≤ n) (h1 : n ≤ 4294967295) : window_See.f (k + 1) A h s n = if A = true then window_See.j1 k n (decide (h ≤ wrap64 (n - 64))) A h s A h s else window_See.j1 k n true A h s A h s := by
  unfold window_See.f
  rw [if_neg (by omega)]
  have : decide (n > 4294967295) = false := by simp; omega
  rw [this]
  simp only [window_See.j0]
  rw [if_neg (by decide)]
theorem see_first (k : Nat) (h s n : Int) (h0 : 0 ≤ n) (h1 : n ≤ 4294967295) : window_See.f (k + 2) false h s n = some (true, n, 1, true) := by
  rw [see_start (k + 1) false h s n h0 h1, if_neg (by decide)]
  simp only [window_See.j1]
  rfl
theorem see_far (k : Nat) (h s n : Int) (hh : 0 ≤ h) (h1 : n ≤ 4294967295) (hf : h ≤ n - 64) : window_See.f (k + 2) true h s n = some (true, n, 1, true) := by
  rw [see_start (k + 1) true h s n (by omega) h1, if_pos rfl, wrap_id (by omega) (by omega)]
  simp only [window_See.j1]
  rw [if_pos (by simpa using hf)]
  have : (n == h) = false := by simp; omega
  simp [this]
theorem see_up (k : Nat) (h n : Int) (s : Nat) (hs : s < 2 ^ 64) (hh : 0 ≤ h) (h1 : n ≤ 4294967295) (hf : ¬ h ≤ n - 64) (hu : h < n) :
    window_See.f (k + 2) true h (s : Int) n = some (true, n, (((s * 2 ^ (n - h).toNat) % 2 ^ 64 ||| 1 : Nat) : Int), true) := by
  rw [see_start (k + 1) true h s n (by omega) h1, if_pos rfl, wrap_id (by omega) (by omega)]
  simp only [window_See.j1]
  rw [if_neg (by simp; omega), if_pos (by omega), wrap_id (by omega) (by omega), if_pos (by omega)]
  have hne : (n == h) = false := by simp; omega
  have hsh : shl .u64 (s : Int) (n - h) = (((s * 2 ^ (n - h).toNat) % 2 ^ 64 : Nat) : Int) := by
    unfold shl
    have hm : min (n - h).toNat IntKind.u64.bits = (n - h).toNat := by
      have : IntKind.u64.bits = 64 := rfl
      rw [this]; omega
    rw [hm]
    simp only [IntKind.wrap, IntKind.bits, IntKind.signed]
    simp
  have hor := u64_or_nat ((s * 2 ^ (n - h).toNat) % 2 ^ 64) 1 (Nat.mod_lt _ (by decide)) (by decide)
  have hor' : Go.bits .or .u64 (shl .u64 (s : Int) (n - h)) 1 = (((s * 2 ^ (n - h).toNat) % 2 ^ 64 ||| 1 : Nat) : Int) := by rw [hsh]; exact hor
  rw [hor']
  simp [hne]
theorem see_back (k : Nat) (h n : Int) (s : Nat) (hs : s < 2 ^ 64) (h0 : 0 ≤ n) (hh : h ≤ 4294967295) (hu : n ≤ h) (hb : h - n < 64) :
    window_See.f (k + 2) true h (s : Int) n = some (true, h, ((s ||| 2 ^ (h - n).toNat : Nat) : Int), !s.testBit (h - n).toNat) := by
  rw [see_start (k + 1) true h s n (by omega) (by omega), if_pos rfl, wrap_id (by omega) (by omega)]
  simp only [window_See.j1]
  rw [if_neg (by simp; omega), if_neg (by omega), wrap_id (by omega) (by omega), if_pos (by omega), if_pos (by omega)]
  have hsh : shl .u64 1 (h - n) = ((2 ^ (h - n).toNat : Nat) : Int) := by
    unfold shl
    have hm : min (h - n).toNat IntKind.u64.bits = (h - n).toNat := by
      have : IntKind.u64.bits = 64 := rfl
      rw [this]; omega
    have hp' : (2 : Nat) ^ (h - n).toNat < 2 ^ 64 := Nat.pow_lt_pow_right (by decide) (by omega)
    rw [hm]
    simp only [IntKind.wrap, IntKind.bits, IntKind.signed]
    simp
    have : (2 : Int) ^ (h - n).toNat = ((2 ^ (h - n).toNat : Nat) : Int) := by simp
    rw [this]
    have hq : ((2 ^ (h - n).toNat : Nat) : Int) < 18446744073709551616 := Int.ofNat_lt.2 hp'
    have hq0 : (0 : Int) ≤ ((2 ^ (h - n).toNat : Nat) : Int) := Int.natCast_nonneg _
    exact Int.emod_eq_of_lt hq0 hq
  rw [hsh]
  have hp' : (2 : Nat) ^ (h - n).toNat < 2 ^ 64 := Nat.pow_lt_pow_right (by decide) (by omega)
  rw [u64_or_nat s (2 ^ (h - n).toNat) hs hp']
  generalize (h - n).toNat = e
  have ht : (((s ||| 2 ^ e : Nat) : Int) == (s : Int)) = s.testBit e := by
    rw [Bool.eq_iff_iff]
    simp only [beq_iff_eq]
    constructor
    · intro hh
      have hh' : s ||| 2 ^ e = s := by exact_mod_cast hh
      rw [← hh', Nat.testBit_or, Nat.testBit_two_pow_self]; simp
    · intro hh
      have : s ||| 2 ^ e = s := by
        apply Nat.eq_of_testBit_eq
        intro i
        rw [Nat.testBit_or, Nat.testBit_two_pow]
        by_cases hi : e = i
        · subst hi; simp [hh]
        · simp [hi]
      rw [this]
  rw [ht]
  simp
theorem see_old (k : Nat) (h n : Int) (s : Int) (h0 : 0 ≤ n) (hh : h ≤ 4294967295) (hb : 64 ≤ h - n) :
    window_See.f (k + 2) true h s n = some (true, h, s, false) := by
  rw [see_start (k + 1) true h s n (by omega) (by omega), if_pos rfl, wrap_id (by omega) (by omega)]
  simp only [window_See.j1]
  rw [if_neg (by simp; omega), if_neg (by omega), wrap_id (by omega) (by omega), if_neg (by omega)]
  simp

theorem shown : sidesticklaw10_shown.f 2 = some true := by
  unfold sidesticklaw10_shown.f
  rw [see_first 0 0 0 5 (by decide) (by decide)]
  simp only [Option.bind_some]
  have e1 := see_up 0 5 7 1 (by decide) (by decide) (by decide) (by decide) (by decide)
  have e1' : window_See.f 2 true 5 1 7 = some (true, 7, 5, true) := e1
  rw [e1']
  simp only [Option.bind_some]
  have e2 : window_See.f 2 true 7 5 6 = some (true, 7, _, _) := see_back 0 7 6 5 (by decide) (by decide) (by decide) (by decide) (by decide)
  have e3 : window_See.f 2 true 7 5 7 = some (true, 7, _, _) := see_back 0 7 7 5 (by decide) (by decide) (by decide) (by decide) (by decide)
  rw [e2, e3]
  rfl

/-- What the window has seen: no number, or those of a row whose greatest is the window's, with a bit for each of the last 64. -/
def Inv (used : List Int) (high : Int) (A : Bool) (H S : Int) : Prop :=
  (A = false ∧ used = [] ∧ high = -1) ∨
  (A = true ∧ H = high ∧ 0 ≤ high ∧ high ≤ 4294967295 ∧ (∀ u ∈ used, 0 ≤ u ∧ u ≤ high) ∧ high ∈ used ∧ ∃ s : Nat, S = (s : Int) ∧ s < 2 ^ 64 ∧ ∀ d : Nat, d < 64 → (s.testBit d = true ↔ high - d ∈ used))

theorem bit0 {used : List Int} {high : Int} {s : Nat} (hm : high ∈ used) (hb : ∀ d : Nat, d < 64 → (s.testBit d = true ↔ high - d ∈ used)) (hs : s < 2 ^ 64) : Go.bits .and .u64 (s : Int) 1 = 1 := by
  have h0 := (hb 0 (by decide)).2 (by simpa using hm)
  rw [Nat.testBit_zero] at h0
  have := u64_and_nat s 1 hs (by decide)
  have e : s &&& 1 = 1 := by rw [nat_mask1]; simpa using h0
  rw [e] at this
  exact this

/-- One number: what the window tells, and that it keeps the invariant. -/
theorem step {used : List Int} {high : Int} {A : Bool} {H S : Int} (hi : Inv used high A H S) (k : Nat) (n : Int) (h0 : 0 ≤ n) (h1 : n ≤ 4294967295) :
    ∃ (A' : Bool) (H' S' : Int) (ok : Bool), window_See.f (k + 2) A H S n = some (A', H', S', ok) ∧
      ok = ((decide (high < 0) || decide (n > high - 64)) && !used.contains n) ∧
      (ok = false → A' = A ∧ H' = H ∧ S' = S) ∧
      Inv (if ok then used ++ [n] else used) (if ok then max high n else high) A' H' S' ∧
      A' = true ∧ H' = (if ok then max high n else high) ∧ Go.bits .and .u64 S' 1 = 1 := by
  rcases hi with ⟨rfl, rfl, rfl⟩ | ⟨rfl, rfl, hh0, hh1, hu, hm, s, rfl, hs, hb⟩
  · refine ⟨true, n, 1, true, see_first k H S n h0 h1, by simp, by simp, Or.inr ⟨rfl, by simp; omega, by simp; omega, by simp; omega, ?_, ?_, 1, rfl, by decide, ?_⟩, rfl, by simp; omega, rfl⟩
    · intro u hu; simp at hu; subst hu; simp; omega
    · simp; omega
    · intro d hd
      have : max (-1 : Int) n = n := by omega
      simp only [if_true, this]
      rw [tb1]
      simp
      omega
  · by_cases hf : H ≤ n - 64
    · have hn : n ∉ used := fun hin => by have := hu n hin; omega
      have hmx : max H n = n := by omega
      refine ⟨true, n, 1, true, see_far k H s n hh0 h1 hf, by simp [hn]; omega, by simp, Or.inr ⟨rfl, by simp [hmx], by simp [hmx]; omega, by simp [hmx]; omega, ?_, by simp [hmx], 1, rfl, by decide, ?_⟩, rfl, by simp [hmx], rfl⟩
      · intro u hin; simp at hin; simp [hmx]
        rcases hin with hin | rfl
        · have := hu u hin; omega
        · omega
      · intro d hd
        simp only [if_true, hmx]
        rw [tb1]
        simp
        constructor
        · intro e; right; omega
        · rintro (hin | e)
          · have := hu _ hin; omega
          · omega
    · by_cases hup : H < n
      · have hn : n ∉ used := fun hin => by have := hu n hin; omega
        have hmx : max H n = n := by omega
        have hinv : ∀ d : Nat, d < 64 → ((s * 2 ^ (n - H).toNat % 2 ^ 64 ||| 1).testBit d = true ↔ n - d ∈ used ++ [n]) := by
          intro d hd
          rw [Nat.testBit_or, Nat.testBit_mod_two_pow, Nat.testBit_mul_two_pow, tb1]
          simp [hd]
          by_cases hd0 : d = 0
          · subst hd0; simp
          · have hde : ¬ n - (d : Int) = n := by omega
            simp [hd0]
            constructor
            · rintro ⟨hle, ht⟩
              have := (hb (d - (n - H).toNat) (by omega)).1 ht
              have e : H - ((d - (n - H).toNat : Nat) : Int) = n - d := by omega
              rw [e] at this; exact .inl this
            · rintro (hin | hin)
              · have hx := hu _ hin
                refine ⟨by omega, (hb (d - (n - H).toNat) (by omega)).2 ?_⟩
                have e : H - ((d - (n - H).toNat : Nat) : Int) = n - d := by omega
                rw [e]; exact hin
              · omega
        have hlt : s * 2 ^ (n - H).toNat % 2 ^ 64 ||| 1 < 2 ^ 64 := Nat.or_lt_two_pow (Nat.mod_lt _ (by decide)) (by decide)
        refine ⟨true, n, _, true, see_up k H n s hs hh0 h1 hf hup, by simp [hn]; omega, by simp, Or.inr ⟨rfl, by simp [hmx], by simp [hmx]; omega, by simp [hmx]; omega, ?_, by simp [hmx], _, rfl, hlt, ?_⟩, rfl, by simp [hmx], ?_⟩
        · intro u hin; simp at hin; simp [hmx]
          rcases hin with hin | rfl
          · have := hu u hin; omega
          · omega
        · simpa only [if_true, hmx] using hinv
        · exact bit0 (used := used ++ [n]) (high := n) (by simp) hinv hlt
      · by_cases hbk : H - n < 64
        · have hbit := hb (H - n).toNat (by omega)
          have e : H - (((H - n).toNat : Nat) : Int) = n := by omega
          rw [e] at hbit
          have hsee := see_back k H n s hs h0 hh1 (by omega) hbk
          by_cases hin : n ∈ used
          · have ht := hbit.2 hin
            have hor : s ||| 2 ^ (H - n).toNat = s := by
              apply Nat.eq_of_testBit_eq
              intro i
              rw [Nat.testBit_or, Nat.testBit_two_pow]
              by_cases hi : (H - n).toNat = i
              · subst hi; simp [ht]
              · simp [hi]
            rw [hor, ht] at hsee
            refine ⟨true, H, s, false, hsee, by simp [hin], fun _ => ⟨rfl, rfl, rfl⟩, Or.inr ⟨rfl, by simp, by simpa using hh0, by simpa using hh1, by simpa using hu, by simpa using hm, s, rfl, hs, by simpa using hb⟩, rfl, by simp, bit0 hm hb hs⟩
          · have ht : s.testBit (H - n).toNat = false := by
              cases hc : s.testBit (H - n).toNat
              · rfl
              · exact absurd (hbit.1 hc) hin
            rw [ht] at hsee
            have hmx : max H n = H := by omega
            have hp : 2 ^ (H - n).toNat < 2 ^ 64 := Nat.pow_lt_pow_right (by decide) (by omega)
            have hinv : ∀ d : Nat, d < 64 → ((s ||| 2 ^ (H - n).toNat).testBit d = true ↔ H - d ∈ used ++ [n]) := by
              intro d hd
              rw [Nat.testBit_or, Nat.testBit_two_pow]
              simp [hb d hd]
              constructor
              · rintro (h | h)
                · exact .inl h
                · right; omega
              · rintro (h | h)
                · exact .inl h
                · right; omega
            have hlt : s ||| 2 ^ (H - n).toNat < 2 ^ 64 := Nat.or_lt_two_pow hs hp
            refine ⟨true, H, _, true, hsee, by simp [hin]; omega, by simp, Or.inr ⟨rfl, by simp [hmx], by simpa [hmx] using hh0, by simpa [hmx] using hh1, ?_, by simp [hmx, hm], _, rfl, hlt, ?_⟩, rfl, by simp [hmx], ?_⟩
            · intro u hin; simp at hin; simp [hmx]
              rcases hin with hin | rfl
              · exact hu u hin
              · omega
            · simpa only [if_true, hmx] using hinv
            · exact bit0 (used := used ++ [n]) (high := H) (by simp [hm]) hinv hlt
        · refine ⟨true, H, s, false, see_old k H n s h0 hh1 (by omega), ?_, fun _ => ⟨rfl, rfl, rfl⟩, Or.inr ⟨rfl, by simp, by simpa using hh0, by simpa using hh1, by simpa using hu, by simpa using hm, s, rfl, hs, by simpa using hb⟩, rfl, by simp, bit0 hm hb hs⟩
          have d1 : decide (H < 0) = false := by simp; omega
          have d2 : decide (n > H - 64) = false := by simp; omega
          rw [d1, d2]; rfl

/-- The inner loop: whether a number was used. -/
theorem inner (x0 : List Int) (x1 : Int) (x5 : Bool) (used : List Int) (hl : used.length ≤ 1000) (x8 x9 n : Int) (A : Bool) (H S : Int) (k : Nat) (d : Nat) : ∀ (i : Nat) (x11 : Bool), i + d = used.length →
    sidesticklaw10_WindowOnce.l1 (k + 1 + d) x0 x1 x5 used x8 x9 n x11 (i : Int) A H S = sidesticklaw10_WindowOnce.l1 (k + 1) x0 x1 x5 used x8 x9 n (x11 && !(used.drop i).contains n) (used.length : Int) A H S := by
  induction d with
  | zero => intro i x11 hi; rw [List.drop_eq_nil_of_le (by omega), show i = used.length by omega]; simp
  | succ d ih =>
    intro i x11 hi
    have hlt : i < used.length := by omega
    have hw : wrap64 ((i : Int) + 1) = ((i + 1 : Nat) : Int) := by unfold wrap64; omega
    have hr : rd used (i : Int) = used[i] := by unfold rd; simp [hlt]
    rw [show k + 1 + (d + 1) = (k + 1 + d) + 1 by omega]
    conv => lhs; unfold sidesticklaw10_WindowOnce.l1
    rw [if_pos (by omega), List.drop_eq_getElem_cons hlt, List.contains_cons]
    cases x11 with
    | false =>
      rw [if_neg (by decide), hw, ih (i + 1) false (by omega)]
      rfl
    | true =>
      rw [if_pos rfl, if_pos (by omega), hw, hr, ih (i + 1) _ (by omega)]
      congr 1
      by_cases he : used[i] = n
      · simp [he]
      · have h1 : (used[i] != n) = true := by simpa using he
        have h2 : (n == used[i]) = false := by simpa using fun h => he h.symm
        rw [h1, h2]; simp
theorem part1 (x0 : List Int) (x1 : Int) (used : List Int) (high : Int) (i : Nat) (A : Bool) (H S n : Int) (k : Nat) (hlt : (i : Int) < (x0.length : Int)) (h100 : i < 100) (hh0 : -1 ≤ high) (hh1 : high ≤ 4294967295)
    (hn : mn (wrap64 (wrap64 x1 + wrap64 (rd x0 (i : Int)))) 4294967295 = n) :
    sidesticklaw10_WindowOnce.l0 (k + 1 + 1 + 1) x0 x1 true used high (i : Int) A H S = sidesticklaw10_WindowOnce.l1 k x0 x1 true used high (i : Int) n (decide (high < 0) || decide (n > high - 64)) 0 A H S := by
  have h0 : (0 : Int) ≤ (i : Int) := Int.natCast_nonneg i
  have hd : decide ((i : Int) < 100) = true := by simp; omega
  have e1 : sidesticklaw10_WindowOnce.l0 (k + 1 + 1 + 1) x0 x1 true used high (i : Int) A H S = sidesticklaw10_WindowOnce.j1 (k + 1 + 1) x0 x1 true used high (i : Int) true A H S := by
    rw [sidesticklaw10_WindowOnce.l0, if_pos hlt, hd]
  have e3 : ∀ b, sidesticklaw10_WindowOnce.j2 (k + 1) x0 x1 true used high (i : Int) n b A H S = sidesticklaw10_WindowOnce.l1 k x0 x1 true used high (i : Int) n b 0 A H S := fun b => by rw [sidesticklaw10_WindowOnce.j2]
  rw [e1, sidesticklaw10_WindowOnce.j1, if_pos rfl, if_pos h0, if_pos hlt, hn, e3, e3]
  by_cases hneg : high < 0
  · rw [if_pos hneg]; simp [hneg]
  · rw [if_neg hneg, wrap_id (by omega) (by omega)]; simp [hneg]
theorem part2 (x0 : List Int) (x1 : Int) (used : List Int) (high : Int) (i : Nat) (A : Bool) (H S n : Int) (k : Nat) (A' : Bool) (H' S' : Int) (ok : Bool)
    (hsee : window_See.f k A H S n = some (A', H', S', ok)) :
    sidesticklaw10_WindowOnce.l1 (k + 1) x0 x1 true used high (i : Int) n ok (used.length : Int) A H S = if ok = true then sidesticklaw10_WindowOnce.j4 k x0 x1 true used high (i : Int) n ok false A' H' S' else sidesticklaw10_WindowOnce.j4 k x0 x1 true used high (i : Int) n ok (!(A' == A) || (!(H' == H) || (!(S' == S)))) A' H' S' := by
  rw [sidesticklaw10_WindowOnce.l1, if_neg (Int.lt_irrefl _), hsee]
  simp only [Option.bind_some]
  have hne : (ok != ok) = false := by cases ok <;> rfl
  rw [hne, if_neg (by decide)]
theorem part3 (x0 : List Int) (x1 : Int) (used : List Int) (high : Int) (i : Nat) (n : Int) (k : Nat) (H' S' : Int) (hl : used.length < 17592186044416) (hi : i < 1000)
    (hg : max high n ≥ 0) (hH : H' = max high n) (hb : Go.bits .and .u64 S' 1 = 1) :
    sidesticklaw10_WindowOnce.j4 (k + 1) x0 x1 true used high (i : Int) n true false true H' S' = sidesticklaw10_WindowOnce.l0 k x0 x1 true (used ++ [n]) (max high n) ((i + 1 : Nat) : Int) true H' S' := by
  have hmx : mx high n = max high n := by unfold mx; omega
  have hw : wrap64 ((i : Int) + 1) = ((i + 1 : Nat) : Int) := by unfold wrap64; omega
  rw [sidesticklaw10_WindowOnce.j4, if_neg (by decide), if_pos rfl, if_pos hl]
  simp only [Option.bind_some]
  rw [hmx, if_pos hg, if_pos trivial, if_pos hH, if_pos hb, hw]
theorem part4 (x0 : List Int) (x1 : Int) (used : List Int) (high : Int) (i : Nat) (n : Int) (k : Nat) (H' S' : Int) (hi : i < 1000)
    (hg : high ≥ 0) (hH : H' = high) (hb : Go.bits .and .u64 S' 1 = 1) :
    sidesticklaw10_WindowOnce.j4 (k + 1) x0 x1 true used high (i : Int) n false false true H' S' = sidesticklaw10_WindowOnce.l0 k x0 x1 true used high ((i + 1 : Nat) : Int) true H' S' := by
  have hw : wrap64 ((i : Int) + 1) = ((i + 1 : Nat) : Int) := by unfold wrap64; omega
  rw [sidesticklaw10_WindowOnce.j4, if_neg (by decide), if_neg (by decide), if_pos hg, if_pos rfl, if_pos hH, if_pos hb, hw]
/-- All rounds. -/
theorem rounds (x0 : List Int) (x1 : Int) (hx : ∀ x ∈ x0, 0 ≤ x ∧ x < 65536) (h1 : 0 ≤ x1 ∧ x1 < 4294967296) (hlen : x0.length ≤ 9223372036854775807) (r : Nat) :
    ∀ (i : Nat) (used : List Int) (high : Int) (A : Bool) (H S : Int), min x0.length 100 - i = r → used.length ≤ i → i ≤ 100 → -1 ≤ high → Inv used high A H S →
      ∃ k, 3 ≤ k ∧ sidesticklaw10_WindowOnce.l0 k x0 x1 true used high (i : Int) A H S = some true := by
  induction r with
  | zero =>
    intro i used high A H S hr hu hi100 hh hi
    refine ⟨4, by decide, ?_⟩
    rw [sidesticklaw10_WindowOnce.l0]
    by_cases hlt : (i : Int) < x0.length
    · have hd : decide ((i : Int) < 100) = false := by simp; omega
      rw [if_pos hlt, hd]; simp [sidesticklaw10_WindowOnce.j1]
    · rw [if_neg hlt]; simp [sidesticklaw10_WindowOnce.j1]
  | succ r ih =>
    intro i used high A H S hr hu hi100 hh hi
    have hlt : i < x0.length := by omega
    have h100 : i < 100 := by omega
    have hx0 := hx x0[i] (List.getElem_mem hlt)
    have hrd : rd x0 (i : Int) = x0[i] := by unfold rd; simp [hlt]
    obtain ⟨n, hn⟩ : ∃ n, mn (wrap64 (wrap64 x1 + wrap64 (rd x0 (i : Int)))) 4294967295 = n := ⟨_, rfl⟩
    have hn' : 0 ≤ n ∧ n ≤ 4294967295 := by
      rw [hrd, wrap_id (x := x1) (by omega) (by omega), wrap_id (x := x0[i]) (by omega) (by omega), wrap_id (by omega) (by omega)] at hn
      unfold mn at hn; omega
    have hhi : high ≤ 4294967295 := by
      rcases hi with ⟨_, _, rfl⟩ | ⟨_, _, _, h, _⟩
      · omega
      · exact h
    have hge : A = true → high ≥ 0 := by
      intro hA
      rcases hi with ⟨h, _⟩ | ⟨_, _, h, _⟩
      · rw [h] at hA; cases hA
      · exact h
    have hlen1 : used.length < 17592186044416 := by omega
    have hlen2 : used.length ≤ 1000 := by omega
    have hi1 : i < 1000 := by omega
    have hge1 : max high n ≥ 0 := by omega
    have hlti : (i : Int) < (x0.length : Int) := by omega
    have hr' : min x0.length 100 - (i + 1) = r := by omega
    have hu1 : used.length ≤ i + 1 := by omega
    have hu2 : (used ++ [n]).length ≤ i + 1 := by simp; omega
    have hi2 : i + 1 ≤ 100 := by omega
    have hh2 : -1 ≤ max high n := by omega
    obtain ⟨A', H', S', ok, hsee, hok, hsame, hinv, hA', hH', hbit⟩ := step hi 0 n hn'.1 hn'.2
    subst hA'
    have hsee2 : ∀ k, 2 ≤ k → window_See.f k A H S n = some (true, H', S', ok) := fun k hk => at_rounds (g := fun k => window_See.f k A H S n) (window_See.mono A H S n) hk hsee
    cases ok with
    | true =>
      simp only [if_true] at hH' hinv
      obtain ⟨k, hk3, hk⟩ := ih (i + 1) (used ++ [n]) (max high n) true H' S' hr' hu2 hi2 hh2 hinv
      refine ⟨k + 1 + 1 + used.length + 1 + 1 + 1, by omega, ?_⟩
      have q := inner x0 x1 true used hlen2 high (i : Int) n A H S (k + 1) used.length 0 (decide (high < 0) || decide (n > high - 64)) (Nat.zero_add _)
      rw [List.drop_zero, ← hok] at q
      rw [part1 x0 x1 used high i A H S n _ hlti h100 hh hhi hn]
      refine q.trans ?_
      rw [part2 x0 x1 used high i A H S n (k + 1) true H' S' true (hsee2 (k + 1) (by omega)), if_pos rfl, part3 x0 x1 used high i n k H' S' hlen1 hi1 hge1 hH' hbit]
      exact hk
    | false =>
      obtain ⟨hA, rfl, rfl⟩ := hsame rfl
      subst hA
      simp only [Bool.false_eq_true, if_false] at hH' hinv
      obtain ⟨k, hk3, hk⟩ := ih (i + 1) used high true H' S' hr' hu1 hi2 hh hinv
      refine ⟨k + 1 + 1 + used.length + 1 + 1 + 1, by omega, ?_⟩
      have q := inner x0 x1 true used hlen2 high (i : Int) n true H' S' (k + 1) used.length 0 (decide (high < 0) || decide (n > high - 64)) (Nat.zero_add _)
      rw [List.drop_zero, ← hok] at q
      rw [part1 x0 x1 used high i true H' S' n _ hlti h100 hh hhi hn]
      refine q.trans ?_
      have hz : ((!(true == true)) || ((!(H' == H')) || (!(S' == S')))) = false := by simp
      rw [part2 x0 x1 used high i true H' S' n (k + 1) true H' S' false (hsee2 (k + 1) (by omega)), if_neg (by decide), hz, part4 x0 x1 used high i n k H' S' hi1 (hge rfl) hH' hbit]
      exact hk

theorem WindowOnce : sidesticklaw10_WindowOnce.Pure := by
  intro l a hl hl2 hw ha
  have ha' : 0 ≤ a ∧ a < 4294967296 := by have := ha; simp [Lit.wf, IntKind.min, IntKind.max, IntKind.signed, IntKind.bits] at this; omega
  have hx : ∀ x ∈ l, 0 ≤ x ∧ x < 65536 := by
    intro x hx
    have := hw x hx
    simp [Lit.wf, IntKind.min, IntKind.max, IntKind.signed, IntKind.bits] at this; omega
  obtain ⟨k, hk3, hk⟩ := rounds l a hx ha' (by unfold maxLen at hl; omega) (min l.length 100) 0 [] (-1) false 0 0 (by omega) (by simp) (by omega) (by omega) (.inl ⟨rfl, rfl, rfl⟩)
  refine ⟨k, ?_⟩
  unfold sidesticklaw10_WindowOnce.f
  have hs : sidesticklaw10_shown.f k = some true := at_rounds (g := sidesticklaw10_shown.f) sidesticklaw10_shown.mono (by omega : 2 ≤ k) shown
  rw [hs]
  exact hk

end Go.Proofs.Ytnbmjpcnjjpcpaa.Pure
