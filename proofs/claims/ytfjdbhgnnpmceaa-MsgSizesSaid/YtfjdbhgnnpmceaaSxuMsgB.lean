/-
  Walks by Sx; no condition beyond those that stand in each statement.
-/
import Derived.Test.YtfjdbhgnnpmceaaSxuMsgA
namespace Go.Proofs
open Go Go.Sx
set_option maxRecDepth 100000
attribute [local simp] xm
variable (T : TyOk Try.prog (tyOf Try.prog Try.eqs)) (hm : Try.prog.follows .mixedOrders = true)
theorem BS.one {H : Heap} {v : Value} {b : List UInt8} (h : BS H v b) : ∃ a c, v = .slice a b.length c := by
  obtain ⟨a, c, e, _⟩ := h; exact ⟨a, c, e⟩
theorem takeN_bd (b : List UInt8) (h : b.length ≤ 7) : takeN b < 72057594037927936 := by
  have h1 := takeN_lt b
  have h2 : 256 ^ b.length ≤ 256 ^ 7 := Nat.pow_le_pow_right (by decide) h
  omega
include T hm
set_option maxHeartbeats 4000000 in
theorem read_fn (fs : List Fs) (A B : List Value) (b : List UInt8) (v0 : Value) (H H0 : Heap) (mi ni fb c ua ub : Nat) (cs : List Value) (hmn : mi ≠ ni) (hfm : fb ≠ mi) (hfn : fb ≠ ni)
    (hA : hget H mi = some (.cells A true ua)) (hB : hget H ni = some (.cells B true ub)) (hcs : cellsAt H fb = some cs) (hFR : FR H mi ni cs fs) (hat : ∀ f ∈ fs, f.at A B) (hfl : fs.length ≤ 100)
    (hb : BS H0 v0 b) (hag : ∀ A B L, Agree H0 ((H.set mi (some (.cells A true ua))).set ni (some (.cells B true ub)) ++ L)) (hbl : b.length < 9223372036854775807) :
    Sx.Fn Try.prog 46 [v0, .slice (some ⟨fb, 0, none⟩) fs.length c] H fun r h => ∃ A' B' L, h = (H.set mi (some (.cells A' true ua))).set ni (some (.cells B' true ub)) ++ L ∧
      (match rdV fs A B b with
      | some (a, b) => A' = a ∧ B' = b ∧ r = .bool true
      | none => r = .bool false) := by
  refine fn_w T xm Try.func46 rfl (by kernel_rfl) Try.results46 Try.ntmps46 (by simp) fun R hR => ?_
  obtain ⟨G, hG⟩ : ∃ G : List Value → List Value → Heap, G = fun A B => (H.set mi (some (.cells A true ua))).set ni (some (.cells B true ub)) := ⟨_, rfl⟩
  replace hag : ∀ A B L, Agree H0 (G A B ++ L) := by rw [hG]; exact hag
  have hml := hget_lt hA
  have hnl := hget_lt hB
  have glen : ∀ A B, (G A B).length = H.length := fun A B => by rw [hG]; simp
  have gm : ∀ A B L, hget (G A B ++ L) mi = some (.cells A true ua) := fun A B L => by rw [hget_append (by rw [glen]; exact hml), hG]; simp [hget_set, hml, hmn.symm]
  have gn : ∀ A B L, hget (G A B ++ L) ni = some (.cells B true ub) := fun A B L => by rw [hget_append (by rw [glen]; exact hnl), hG]; simp [hget_set, hnl]
  have gx : ∀ A B L i, i ≠ mi → i ≠ ni → i < H.length → hget (G A B ++ L) i = hget H i := fun A B L i h2 h3 h4 => by rw [hget_append (by rw [glen]; exact h4), hG]; simp [hget_set, Ne.symm h2, Ne.symm h3]
  have gk : ∀ A B L k, hget (G A B ++ L) (H.length + k) = hget L k := fun A B L k => by rw [← glen A B]; exact hget_append_new
  have gs : ∀ A B L k b, (G A B ++ L).set (H.length + k) b = G A B ++ L.set k b := fun A B L k b => by rw [← glen A B]; exact hset_newk _ _ _ _
  have sm : ∀ A B L A', (G A B ++ L).set mi (some (.cells A' true ua)) = G A' B ++ L := fun A B L A' => by
    rw [List.set_append_left _ _ (by rw [glen]; exact hml), hG]
    simp only
    rw [List.set_comm _ _ hmn.symm, List.set_set]
  have sn : ∀ A B L B', (G A B ++ L).set ni (some (.cells B' true ub)) = G A B' ++ L := fun A B L B' => by
    rw [List.set_append_left _ _ (by rw [glen]; exact hnl), hG]
    simp only
    rw [List.set_set]
  have self : ∀ (K : Heap) i x, hget K i = some x → K.set i (some x) = K := by
    intro K i x hx
    apply List.ext_getElem?
    intro j
    rw [List.getElem?_set]
    split
    · rename_i hi; subst hi
      have hl := hget_lt hx
      unfold hget at hx
      rw [List.getElem?_eq_getElem hl] at hx ⊢
      rw [if_pos hl]
      simpa using hx.symm
    · rfl
  have g0 : G A B = H := by
    rw [hG]
    simp only
    rw [self H mi _ hA, self H ni _ hB]
  have bad : rdV fs A B b = none → ∀ A1 B1 L1, R (.bool false) (G A1 B1 ++ L1) := fun e A1 B1 L1 => hR _ _ (by rw [e]; exact ⟨A1, B1, L1, by rw [hG], rfl⟩)
  have good : ∀ A1 B1 L1, rdV fs A B b = some (A1, B1) → R (.bool true) (G A1 B1 ++ L1) := fun A1 B1 L1 e => hR _ _ (by rw [e]; exact ⟨A1, B1, L1, by rw [hG], rfl, rfl, rfl⟩)
  have hfbl : fb < H.length := by
    unfold cellsAt at hcs
    split at hcs
    · rename_i hh; exact hget_lt hh
    · rename_i hh; exact hget_lt hh
    · cases hcs
  have gf : ∀ A B L, cellsB (hget (G A B ++ L) fb) = some cs := fun A B L => by rw [gx A B L fb hfm hfn hfbl, ← cellsAt_eq]; exact hcs
  simp
  refine W_forS T xm (S := fun i (a : List Value × List Value × List UInt8 × Value × Heap) => ⟨[(0, .v a.2.2.2.1), (9, .v (.slice (some ⟨fb, 0, none⟩) fs.length c)), (10, .v (.int .i64 fs.length)), (11, .v (.int .i64 i))], G a.1 a.2.1 ++ a.2.2.2.2⟩)
    (fun i a => rdV fs A B b = rdV (fs.drop i) a.1 a.2.1 a.2.2.1 ∧ BS H0 a.2.2.2.1 a.2.2.1 ∧ (∀ f ∈ fs, f.at a.1 a.2.1) ∧ a.2.2.1.length < 9223372036854775807) fs.length ⟨(A, B, b, v0, []), ⟨rfl, hb, hat, hbl⟩, by simp, by simp [g0]⟩ ?_
  clear hbl hb
  rintro i ⟨A1, B1, b1, v1, L⟩ hi ⟨hw, hb1, hat1, hbl⟩ K Q hK hQ
  simp only at hw hb1 hat1 hbl hK
  obtain ⟨a, cc, rfl⟩ := BS.one hb1
  have hc0 : i < fs.length ∨ i = fs.length := by omega
  rcases hc0 with hc | hi'
  · have hfi : fs[i]? = some fs[i] := List.getElem?_eq_getElem hc
    obtain ⟨hok, bx, hs, hbx⟩ := hFR i _ hfi
    obtain ⟨s1, s2⟩ := slc_some hs
    have hdrop : fs.drop i = fs[i] :: fs.drop (i + 1) := List.drop_eq_getElem_cons hc
    rw [hdrop] at hw
    obtain ⟨v, hv⟩ := hat1 fs[i] (List.getElem_mem hc)
    have hat2 : ∀ x, ∀ f ∈ fs, f.at (fs[i].stA A1 x) (fs[i].stB B1 x) := fun x f hf => Fs.at_st (hat1 f hf) x
    generalize fs[i] = f at *
    obtain ⟨now, k, lo, hi', sz, ax⟩ := f
    obtain ⟨hok1, hok7, hok2⟩ := hok
    simp only at hok1 hok7 hok2 hbx
    have hcut : sz ≤ b1.length → ∃ a' c', (∀ H', Agree H0 H' → slcD (tyOf Try.prog Try.eqs) H' (.slice 5) (.slice a b1.length cc) none (some (.int .i64 sz)) none = some (.slice a' sz c')) ∧ BS H0 (.slice a' sz c') (b1.take sz) := fun hl => by
      have := BS.cut hb1 Try.ty5 rfl (Nat.zero_le sz) hl (lo := none) (hi := some (.int .i64 sz)) (.inl ⟨rfl, rfl⟩) (.inr ⟨_, rfl⟩)
      simpa using this
    have hcut2 : sz ≤ b1.length → ∃ a' c', (∀ H', Agree H0 H' → slcD (tyOf Try.prog Try.eqs) H' (.slice 5) (.slice a b1.length cc) (some (.int .i64 sz)) none none = some (.slice a' (b1.length - sz) c')) ∧ BS H0 (.slice a' (b1.length - sz) c') (b1.drop sz) := fun hl => by
      have := BS.cut hb1 Try.ty5 rfl hl (Nat.le_refl _) (lo := some (.int .i64 sz)) (hi := none) (.inr ⟨_, rfl⟩) (.inl ⟨rfl, rfl⟩)
      simpa using this
    cases now <;> cases ax <;> simp only [Fs.sel, Fs.stA, Fs.stB, Bool.false_eq_true, if_true, if_false] at hv hok2 hat2 hbx
    · -- now False ax False
      simp only [rdV, Fs.num, Fs.stA, Fs.stB, Bool.false_eq_true, if_false] at hw
      obtain ⟨w, hwd⟩ : ∃ w, w = (takeN (b1.take sz) : Int) := ⟨_, rfl⟩
      rw [← hwd] at hw
      simp [hc, gf, s1, ← s2, Fs.cells, glen, gk, gs]
      refine ⟨fun h1 => ?_, fun h1 => ?_⟩
      · rw [if_pos (by omega)] at hw
        refine hQ _ _ ?_
        simp
        exact Ans.refl (bad hw _ _ _)
      rw [if_neg (by omega)] at hw
      obtain ⟨a3, c3, hs3, hbs⟩ := hcut (by omega)
      obtain ⟨a4, c4, hs4, hbs4⟩ := hcut2 (by omega)
      have hs3' := fun A B L => hs3 _ (hag A B L)
      have hs4' := fun A B L => hs4 _ (hag A B L)
      refine cw_drawl T hm xm [0, 6, 7, 9, 10, 11] (.soft 0 false <| .soft 1 true <| .soft 2 false <| .soft 3 false <| .soft 4 true <| .soft 5 true <| .alt 6 true (.soft 7 false <| .soft 8 false <| .soft 9 false <| .soft 10 false <| .soft 11 false <| .stop) (.stop)) (by kernel_rfl) fun K2 hK2 => ?_
      simp [gk, hs3']
      refine CallK.is (plainTake_fn T (b1.take sz) (by simp; omega) _ _ (hbs.agree (hag _ _ _))) ?_
      rw [← hwd]
      simp
      refine hK2 _ ?_
      simp [gk]
      refine ⟨fun h2 => ?_, fun h2 => ?_⟩
      · refine ⟨fun h3 => ?_, fun h3 => ?_⟩
        · rw [if_pos (.inr h3)] at hw
          refine hQ _ _ ?_
          simp
          exact Ans.refl (bad hw _ _ _)
        rw [if_neg (by omega)] at hw
        refine cw_drawl T hm xm [0, 9, 10, 11] (.soft 0 false <| .soft 2 false <| .soft 3 false <| .soft 4 false <| .alt 1 false (.alt 5 false (.alt 6 false (.alt 7 false (.alt 8 false (.soft 9 false <| .stop) (.stop)) (.stop)) (.alt 7 false (.alt 6 false (.alt 8 false (.soft 9 false <| .stop) (.stop)) (.alt 8 false (.alt 6 false (.soft 9 false <| .stop) (.stop)) (.stop))) (.stop))) (.alt 7 false (.alt 5 false (.alt 6 false (.alt 8 false (.soft 9 false <| .stop) (.stop)) (.alt 8 false (.alt 6 false (.soft 9 false <| .stop) (.stop)) (.stop))) (.alt 8 false (.alt 5 false (.alt 6 false (.soft 9 false <| .stop) (.stop)) (.stop)) (.stop))) (.stop))) (.alt 5 false (.alt 1 false (.alt 6 false (.alt 7 false (.alt 8 false (.soft 9 false <| .stop) (.stop)) (.stop)) (.alt 7 false (.alt 6 false (.alt 8 false (.soft 9 false <| .stop) (.stop)) (.alt 8 false (.alt 6 false (.soft 9 false <| .stop) (.stop)) (.stop))) (.stop))) (.alt 6 false (.alt 1 false (.alt 7 false (.alt 8 false (.soft 9 false <| .stop) (.stop)) (.stop)) (.stop)) (.stop))) (.stop))) (by kernel_rfl) fun K3 hK3 => ?_
        have hkl := (List.getElem?_eq_some_iff.1 hv).1
        have hkl' : k + 1 ≤ A1.length := hkl
        have fin : K3 ⟨[(0, .v (.slice a4 (b1.length - sz) c4)), (9, .v (.slice (some ⟨fb, 0, none⟩) fs.length c)), (10, .v (.int .i64 fs.length)), (11, .v (.int .i64 i))], G (A1.set k (.int .i64 w)) B1 ++ (L ++ [some (.cells [.pointer (some ⟨mi, k, none⟩), .int .i64 lo, .int .i64 hi', .int .i64 sz, .func (.func 68) #[] #[.pointer (some ⟨bx, 0, none⟩)], .func (.func 69) #[] #[]] true 0)])⟩ := by
          refine hK3 _ ?_
          simp
          refine ⟨by omega, ?_⟩
          exact hK _ _ ((A1.set k (.int .i64 w)), B1, b1.drop sz, .slice a4 (b1.length - sz) c4, _) hc ⟨hw, hbs4, hat2 w, by simp; omega⟩ (by simp) rfl (by simp [glen])
        simp [gk, hs4', gm, sm, hkl', fin]
      · rw [if_pos (.inl h2)] at hw
        refine hQ _ _ ?_
        simp
        exact Ans.refl (bad hw _ _ _)
    · -- now False ax True
      obtain ⟨rfl, rfl, rfl⟩ := hok2
      simp only [rdV, Fs.num, Fs.stA, Fs.stB, Bool.false_eq_true, if_true, if_false] at hw
      obtain ⟨w, hwd⟩ : ∃ w, w = sx (takeN (b1.take 2)) := ⟨_, rfl⟩
      rw [← hwd] at hw
      simp [hc, gf, s1, ← s2, Fs.cells, glen, gk, gs]
      refine ⟨fun h1 => ?_, fun h1 => ?_⟩
      · rw [if_pos (by omega)] at hw
        refine hQ _ _ ?_
        simp
        exact Ans.refl (bad hw _ _ _)
      rw [if_neg (by omega)] at hw
      obtain ⟨a3, c3, hs3, hbs⟩ := hcut (by omega)
      obtain ⟨a4, c4, hs4, hbs4⟩ := hcut2 (by omega)
      have hs3' : ∀ A B L, slcD (tyOf Try.prog Try.eqs) (G A B ++ L) (.slice 5) (.slice a b1.length cc) none (some (.int .i64 2)) none = some (.slice a3 2 c3) := fun A B L => hs3 _ (hag A B L)
      have hs4' : ∀ A B L, slcD (tyOf Try.prog Try.eqs) (G A B ++ L) (.slice 5) (.slice a b1.length cc) (some (.int .i64 2)) none none = some (.slice a4 (b1.length - 2) c4) := fun A B L => hs4 _ (hag A B L)
      refine cw_drawl T hm xm [0, 6, 7, 9, 10, 11] (.soft 0 false <| .soft 1 true <| .soft 2 false <| .soft 3 false <| .soft 4 true <| .soft 5 true <| .alt 6 true (.soft 7 false <| .soft 8 false <| .soft 9 false <| .soft 10 false <| .soft 11 false <| .stop) (.stop)) (by kernel_rfl) fun K2 hK2 => ?_
      simp [gk, hs3']
      refine CallK.is (takeInt_bs T (b1.take 2) (by simp; omega) _ _ (hbs.agree (hag _ _ _))) ?_
      rw [← hwd]
      simp
      refine hK2 _ ?_
      simp [gk]
      refine ⟨fun h2 => ?_, fun h2 => ?_⟩
      · refine ⟨fun h3 => ?_, fun h3 => ?_⟩
        · rw [if_pos (.inr h3)] at hw
          refine hQ _ _ ?_
          simp
          exact Ans.refl (bad hw _ _ _)
        rw [if_neg (by omega)] at hw
        refine cw_drawl T hm xm [0, 9, 10, 11] (.soft 0 false <| .soft 2 false <| .soft 3 false <| .soft 4 false <| .alt 1 false (.alt 5 false (.alt 6 false (.alt 7 false (.alt 8 false (.soft 9 false <| .stop) (.stop)) (.stop)) (.alt 7 false (.alt 6 false (.alt 8 false (.soft 9 false <| .stop) (.stop)) (.alt 8 false (.alt 6 false (.soft 9 false <| .stop) (.stop)) (.stop))) (.stop))) (.alt 7 false (.alt 5 false (.alt 6 false (.alt 8 false (.soft 9 false <| .stop) (.stop)) (.alt 8 false (.alt 6 false (.soft 9 false <| .stop) (.stop)) (.stop))) (.alt 8 false (.alt 5 false (.alt 6 false (.soft 9 false <| .stop) (.stop)) (.stop)) (.stop))) (.stop))) (.alt 5 false (.alt 1 false (.alt 6 false (.alt 7 false (.alt 8 false (.soft 9 false <| .stop) (.stop)) (.stop)) (.alt 7 false (.alt 6 false (.alt 8 false (.soft 9 false <| .stop) (.stop)) (.alt 8 false (.alt 6 false (.soft 9 false <| .stop) (.stop)) (.stop))) (.stop))) (.alt 6 false (.alt 1 false (.alt 7 false (.alt 8 false (.soft 9 false <| .stop) (.stop)) (.stop)) (.stop)) (.stop))) (.stop))) (by kernel_rfl) fun K3 hK3 => ?_
        have hkl := (List.getElem?_eq_some_iff.1 hv).1
        have hkl' : k + 1 ≤ A1.length := hkl
        have fin : K3 ⟨[(0, .v (.slice a4 (b1.length - 2) c4)), (9, .v (.slice (some ⟨fb, 0, none⟩) fs.length c)), (10, .v (.int .i64 fs.length)), (11, .v (.int .i64 i))], G (A1.set k (.int .i64 w)) B1 ++ (L ++ [some (.cells [.pointer (some ⟨mi, k, none⟩), .int .i64 (-32768), .int .i64 32767, .int .i64 2, .func (.func 71) #[] #[], .func (.func 72) #[] #[]] true 0)])⟩ := by
          refine hK3 _ ?_
          simp
          refine ⟨by omega, ?_⟩
          exact hK _ _ ((A1.set k (.int .i64 w)), B1, b1.drop 2, .slice a4 (b1.length - 2) c4, _) hc ⟨hw, hbs4, hat2 w, by simp; omega⟩ (by simp) rfl (by simp [glen])
        simp [gk, hs4', gm, sm, hkl', fin]
      · rw [if_pos (.inl h2)] at hw
        refine hQ _ _ ?_
        simp
        exact Ans.refl (bad hw _ _ _)
    · -- now True ax False
      simp only [rdV, Fs.num, Fs.stA, Fs.stB, Bool.false_eq_true, if_true, if_false] at hw
      obtain ⟨w, hwd⟩ : ∃ w, w = (takeN (b1.take sz) : Int) := ⟨_, rfl⟩
      rw [← hwd] at hw
      simp [hc, gf, s1, ← s2, Fs.cells, glen, gk, gs]
      refine ⟨fun h1 => ?_, fun h1 => ?_⟩
      · rw [if_pos (by omega)] at hw
        refine hQ _ _ ?_
        simp
        exact Ans.refl (bad hw _ _ _)
      rw [if_neg (by omega)] at hw
      obtain ⟨a3, c3, hs3, hbs⟩ := hcut (by omega)
      obtain ⟨a4, c4, hs4, hbs4⟩ := hcut2 (by omega)
      have hs3' := fun A B L => hs3 _ (hag A B L)
      have hs4' := fun A B L => hs4 _ (hag A B L)
      refine cw_drawl T hm xm [0, 6, 7, 9, 10, 11] (.soft 0 false <| .soft 1 true <| .soft 2 false <| .soft 3 false <| .soft 4 true <| .soft 5 true <| .alt 6 true (.soft 7 false <| .soft 8 false <| .soft 9 false <| .soft 10 false <| .soft 11 false <| .stop) (.stop)) (by kernel_rfl) fun K2 hK2 => ?_
      simp [gk, hs3']
      refine CallK.is (plainTake_fn T (b1.take sz) (by simp; omega) _ _ (hbs.agree (hag _ _ _))) ?_
      rw [← hwd]
      simp
      refine hK2 _ ?_
      simp [gk]
      refine ⟨fun h2 => ?_, fun h2 => ?_⟩
      · refine ⟨fun h3 => ?_, fun h3 => ?_⟩
        · rw [if_pos (.inr h3)] at hw
          refine hQ _ _ ?_
          simp
          exact Ans.refl (bad hw _ _ _)
        rw [if_neg (by omega)] at hw
        refine cw_drawl T hm xm [0, 9, 10, 11] (.soft 0 false <| .soft 2 false <| .soft 3 false <| .soft 4 false <| .alt 1 false (.alt 5 false (.alt 6 false (.alt 7 false (.alt 8 false (.soft 9 false <| .stop) (.stop)) (.stop)) (.alt 7 false (.alt 6 false (.alt 8 false (.soft 9 false <| .stop) (.stop)) (.alt 8 false (.alt 6 false (.soft 9 false <| .stop) (.stop)) (.stop))) (.stop))) (.alt 7 false (.alt 5 false (.alt 6 false (.alt 8 false (.soft 9 false <| .stop) (.stop)) (.alt 8 false (.alt 6 false (.soft 9 false <| .stop) (.stop)) (.stop))) (.alt 8 false (.alt 5 false (.alt 6 false (.soft 9 false <| .stop) (.stop)) (.stop)) (.stop))) (.stop))) (.alt 5 false (.alt 1 false (.alt 6 false (.alt 7 false (.alt 8 false (.soft 9 false <| .stop) (.stop)) (.stop)) (.alt 7 false (.alt 6 false (.alt 8 false (.soft 9 false <| .stop) (.stop)) (.alt 8 false (.alt 6 false (.soft 9 false <| .stop) (.stop)) (.stop))) (.stop))) (.alt 6 false (.alt 1 false (.alt 7 false (.alt 8 false (.soft 9 false <| .stop) (.stop)) (.stop)) (.stop)) (.stop))) (.stop))) (by kernel_rfl) fun K3 hK3 => ?_
        have hkl := (List.getElem?_eq_some_iff.1 hv).1
        have hkl' : k + 1 ≤ B1.length := hkl
        have fin : K3 ⟨[(0, .v (.slice a4 (b1.length - sz) c4)), (9, .v (.slice (some ⟨fb, 0, none⟩) fs.length c)), (10, .v (.int .i64 fs.length)), (11, .v (.int .i64 i))], G A1 (B1.set k (.int .i64 w)) ++ (L ++ [some (.cells [.pointer (some ⟨ni, k, none⟩), .int .i64 lo, .int .i64 hi', .int .i64 sz, .func (.func 68) #[] #[.pointer (some ⟨bx, 0, none⟩)], .func (.func 69) #[] #[]] true 0)])⟩ := by
          refine hK3 _ ?_
          simp
          refine ⟨by omega, ?_⟩
          exact hK _ _ (A1, (B1.set k (.int .i64 w)), b1.drop sz, .slice a4 (b1.length - sz) c4, _) hc ⟨hw, hbs4, hat2 w, by simp; omega⟩ (by simp) rfl (by simp [glen])
        simp [gk, hs4', gn, sn, hkl', fin]
      · rw [if_pos (.inl h2)] at hw
        refine hQ _ _ ?_
        simp
        exact Ans.refl (bad hw _ _ _)
    · -- now True ax True
      obtain ⟨rfl, rfl, rfl⟩ := hok2
      simp only [rdV, Fs.num, Fs.stA, Fs.stB, if_true] at hw
      obtain ⟨w, hwd⟩ : ∃ w, w = sx (takeN (b1.take 2)) := ⟨_, rfl⟩
      rw [← hwd] at hw
      simp [hc, gf, s1, ← s2, Fs.cells, glen, gk, gs]
      refine ⟨fun h1 => ?_, fun h1 => ?_⟩
      · rw [if_pos (by omega)] at hw
        refine hQ _ _ ?_
        simp
        exact Ans.refl (bad hw _ _ _)
      rw [if_neg (by omega)] at hw
      obtain ⟨a3, c3, hs3, hbs⟩ := hcut (by omega)
      obtain ⟨a4, c4, hs4, hbs4⟩ := hcut2 (by omega)
      have hs3' : ∀ A B L, slcD (tyOf Try.prog Try.eqs) (G A B ++ L) (.slice 5) (.slice a b1.length cc) none (some (.int .i64 2)) none = some (.slice a3 2 c3) := fun A B L => hs3 _ (hag A B L)
      have hs4' : ∀ A B L, slcD (tyOf Try.prog Try.eqs) (G A B ++ L) (.slice 5) (.slice a b1.length cc) (some (.int .i64 2)) none none = some (.slice a4 (b1.length - 2) c4) := fun A B L => hs4 _ (hag A B L)
      refine cw_drawl T hm xm [0, 6, 7, 9, 10, 11] (.soft 0 false <| .soft 1 true <| .soft 2 false <| .soft 3 false <| .soft 4 true <| .soft 5 true <| .alt 6 true (.soft 7 false <| .soft 8 false <| .soft 9 false <| .soft 10 false <| .soft 11 false <| .stop) (.stop)) (by kernel_rfl) fun K2 hK2 => ?_
      simp [gk, hs3']
      refine CallK.is (takeInt_bs T (b1.take 2) (by simp; omega) _ _ (hbs.agree (hag _ _ _))) ?_
      rw [← hwd]
      simp
      refine hK2 _ ?_
      simp [gk]
      refine ⟨fun h2 => ?_, fun h2 => ?_⟩
      · refine ⟨fun h3 => ?_, fun h3 => ?_⟩
        · rw [if_pos (.inr h3)] at hw
          refine hQ _ _ ?_
          simp
          exact Ans.refl (bad hw _ _ _)
        rw [if_neg (by omega)] at hw
        refine cw_drawl T hm xm [0, 9, 10, 11] (.soft 0 false <| .soft 2 false <| .soft 3 false <| .soft 4 false <| .alt 1 false (.alt 5 false (.alt 6 false (.alt 7 false (.alt 8 false (.soft 9 false <| .stop) (.stop)) (.stop)) (.alt 7 false (.alt 6 false (.alt 8 false (.soft 9 false <| .stop) (.stop)) (.alt 8 false (.alt 6 false (.soft 9 false <| .stop) (.stop)) (.stop))) (.stop))) (.alt 7 false (.alt 5 false (.alt 6 false (.alt 8 false (.soft 9 false <| .stop) (.stop)) (.alt 8 false (.alt 6 false (.soft 9 false <| .stop) (.stop)) (.stop))) (.alt 8 false (.alt 5 false (.alt 6 false (.soft 9 false <| .stop) (.stop)) (.stop)) (.stop))) (.stop))) (.alt 5 false (.alt 1 false (.alt 6 false (.alt 7 false (.alt 8 false (.soft 9 false <| .stop) (.stop)) (.stop)) (.alt 7 false (.alt 6 false (.alt 8 false (.soft 9 false <| .stop) (.stop)) (.alt 8 false (.alt 6 false (.soft 9 false <| .stop) (.stop)) (.stop))) (.stop))) (.alt 6 false (.alt 1 false (.alt 7 false (.alt 8 false (.soft 9 false <| .stop) (.stop)) (.stop)) (.stop)) (.stop))) (.stop))) (by kernel_rfl) fun K3 hK3 => ?_
        have hkl := (List.getElem?_eq_some_iff.1 hv).1
        have hkl' : k + 1 ≤ B1.length := hkl
        have fin : K3 ⟨[(0, .v (.slice a4 (b1.length - 2) c4)), (9, .v (.slice (some ⟨fb, 0, none⟩) fs.length c)), (10, .v (.int .i64 fs.length)), (11, .v (.int .i64 i))], G A1 (B1.set k (.int .i64 w)) ++ (L ++ [some (.cells [.pointer (some ⟨ni, k, none⟩), .int .i64 (-32768), .int .i64 32767, .int .i64 2, .func (.func 71) #[] #[], .func (.func 72) #[] #[]] true 0)])⟩ := by
          refine hK3 _ ?_
          simp
          refine ⟨by omega, ?_⟩
          exact hK _ _ (A1, (B1.set k (.int .i64 w)), b1.drop 2, .slice a4 (b1.length - 2) c4, _) hc ⟨hw, hbs4, hat2 w, by simp; omega⟩ (by simp) rfl (by simp [glen])
        simp [gk, hs4', gn, sn, hkl', fin]
      · rw [if_pos (.inl h2)] at hw
        refine hQ _ _ ?_
        simp
        exact Ans.refl (bad hw _ _ _)
  · subst hi'
    rw [List.drop_length] at hw
    simp only [rdV] at hw
    simp
    refine hQ _ _ ?_
    simp
    by_cases hbn : b1 = []
    · subst hbn
      rw [if_pos rfl] at hw
      exact Ans.refl (good _ _ _ hw)
    · rw [if_neg hbn] at hw
      simp [hbn]
      exact Ans.refl (bad hw _ _ _)
end Go.Proofs
