/-
  Walks by Sx; no condition beyond those that stand in each statement.
-/
import Derived.Test.YtfjdbhgnnpmceaaSxuPk
import Derived.Test.YtfjdbhgnnpmceaaSxb10
namespace Go.Proofs
open Go Go.Sx
set_option maxRecDepth 100000
attribute [local simp] xm
variable (T : TyOk Try.prog (tyOf Try.prog Try.eqs)) (hm : Try.prog.follows .mixedOrders = true)
/-- A field: of which of two blocks, where, its bounds, how many bytes it has, and whether it has a sign. -/
structure Fs where
  now : Bool
  k : Nat
  lo : Int
  hi : Int
  sz : Nat
  ax : Bool
def Fs.cells (mi ni bx : Nat) (f : Fs) : List Value :=
  [.pointer (some ⟨if f.now = true then ni else mi, f.k, none⟩), .int .i64 f.lo, .int .i64 f.hi, .int .i64 f.sz,
    if f.ax = true then .func (.func 71) #[] #[] else .func (.func 68) #[] #[.pointer (some ⟨bx, 0, none⟩)],
    if f.ax = true then .func (.func 72) #[] #[] else .func (.func 69) #[] #[]]
def Fs.ok (f : Fs) : Prop := 1 ≤ f.sz ∧ f.sz ≤ 7 ∧ if f.ax = true then f.lo = -32768 ∧ f.hi = 32767 ∧ f.sz = 2 else 0 ≤ f.lo ∧ f.hi < (256 ^ f.sz : Nat)
def Fs.bytes (f : Fs) (v : Int) : List UInt8 := if f.ax = true then be 2 (v % 65536).toNat else be f.sz v.toNat
def Fs.num (f : Fs) (b : List UInt8) : Int := if f.ax = true then sx (takeN b) else takeN b
def Fs.sel (f : Fs) (A B : List Value) : List Value := if f.now = true then B else A
def Fs.rd (f : Fs) (A B : List Value) : Int := match (f.sel A B)[f.k]? with
  | some (.int .i64 v) => v
  | _ => 0
def Fs.stA (f : Fs) (A : List Value) (v : Int) : List Value := if f.now = true then A else A.set f.k (.int .i64 v)
def Fs.stB (f : Fs) (B : List Value) (v : Int) : List Value := if f.now = true then B.set f.k (.int .i64 v) else B
/-- Fields as bytes; they are 0 then. -/
def wrV : List Fs → List Value → List Value → List UInt8 → Option (List UInt8 × List Value × List Value)
  | [], A, B, o => some (o, A, B)
  | f :: r, A, B, o => if f.rd A B < f.lo ∨ f.hi < f.rd A B then none else wrV r (f.stA A 0) (f.stB B 0) (o ++ f.bytes (f.rd A B))
/-- Fields from bytes. -/
def rdV : List Fs → List Value → List Value → List UInt8 → Option (List Value × List Value)
  | [], A, B, b => if b = [] then some (A, B) else none
  | f :: r, A, B, b => if b.length < f.sz then none else if f.num (b.take f.sz) < f.lo ∨ f.hi < f.num (b.take f.sz) then none else rdV r (f.stA A (f.num (b.take f.sz))) (f.stB B (f.num (b.take f.sz))) (b.drop f.sz)
/-- A number stands there. -/
def Fs.at (f : Fs) (A B : List Value) : Prop := ∃ v, (f.sel A B)[f.k]? = some (.int .i64 v)
theorem Fs.at_st {f g : Fs} {A B : List Value} (h : g.at A B) (v : Int) : g.at (f.stA A v) (f.stB B v) := by
  obtain ⟨now, k, lo, hi, sz, ax⟩ := f
  obtain ⟨now', k', lo', hi', sz', ax'⟩ := g
  obtain ⟨w, hw⟩ := h
  have key : ∀ X : List Value, X[k']? = some (.int .i64 w) → ∃ u, (X.set k (.int .i64 v))[k']? = some (.int .i64 u) := by
    intro X hX
    by_cases hk : k = k'
    · subst hk
      have := (List.getElem?_eq_some_iff.1 hX).1
      exact ⟨v, by simp [this]⟩
    · exact ⟨w, by rw [List.getElem?_set_ne hk]; exact hX⟩
  cases now <;> cases now' <;> simp only [Fs.at, Fs.sel, Fs.stA, Fs.stB, Bool.false_eq_true, if_true, if_false] at hw ⊢
  · exact key A hw
  · exact ⟨w, hw⟩
  · exact ⟨w, hw⟩
  · exact key B hw
/-- A row of fields, as it lies. -/
def FR (h : Heap) (mi ni : Nat) (cs : List Value) (fs : List Fs) : Prop :=
  ∀ (j : Nat) (f : Fs), fs[j]? = some f → f.ok ∧ ∃ bx, slc cs (j * 6) 6 = some (f.cells mi ni bx) ∧ (f.ax = false → ∃ u, hget h bx = some (.cells [.int .i64 f.sz] true u) ∧ bx ≠ mi ∧ bx ≠ ni)
include T hm
set_option maxHeartbeats 2000000 in
theorem write_fn (fs : List Fs) (A B : List Value) (o : List UInt8) (ho : o.length = 1) (H : Heap) (oi mi ni fb c ua ub uo : Nat) (cs : List Value) (hmn : mi ≠ ni) (hom : oi ≠ mi) (hon : oi ≠ ni) (hof : oi ≠ fb) (hfm : fb ≠ mi) (hfn : fb ≠ ni)
    (hA : hget H mi = some (.cells A true ua)) (hB : hget H ni = some (.cells B true ub)) (hO : hget H oi = some (.cells (u8s o) true uo)) (hcs : cellsAt H fb = some cs) (hFR : FR H mi ni cs fs) (hob : ∀ bx, (∃ n u, hget H bx = some (.cells [.int .i64 n] true u)) → bx ≠ oi) (hat : ∀ f ∈ fs, f.at A B) (hfl : fs.length ≤ 100) :
    Sx.Fn Try.prog 40 [.slice (some ⟨oi, 0, none⟩) 1 1, .slice (some ⟨fb, 0, none⟩) fs.length c] H fun r h => ∃ A' B' L, h = ((H.set oi none).set mi (some (.cells A' true ua))).set ni (some (.cells B' true ub)) ++ L ∧
      (match wrV fs A B o with
      | some (o', a, b) => A' = a ∧ B' = b ∧ ∃ p, hget L p = some (grown (u8s o') 1) ∧ r = .tuple #[.slice (some ⟨H.length + p, 0, none⟩) o'.length OPEN, .bool true]
      | none => r = .tuple #[.slice none 0 0, .bool false]) := by
  refine fn_w T xm Try.func40 rfl (by kernel_rfl) Try.results40 Try.ntmps40 (by simp) fun R hR => ?_
  obtain ⟨G, hG⟩ : ∃ G : List Value → List Value → Heap, G = fun A B => ((H.set oi none).set mi (some (.cells A true ua))).set ni (some (.cells B true ub)) := ⟨_, rfl⟩
  have hml := hget_lt hA
  have hnl := hget_lt hB
  have glen : ∀ A B, (G A B).length = H.length := fun A B => by rw [hG]; simp
  have gm : ∀ A B L, hget (G A B ++ L) mi = some (.cells A true ua) := fun A B L => by rw [hget_append (by rw [glen]; exact hml), hG]; simp [hget_set, hml, hmn.symm]
  have gn : ∀ A B L, hget (G A B ++ L) ni = some (.cells B true ub) := fun A B L => by rw [hget_append (by rw [glen]; exact hnl), hG]; simp [hget_set, hnl]
  have gx : ∀ A B L i, i ≠ oi → i ≠ mi → i ≠ ni → i < H.length → hget (G A B ++ L) i = hget H i := fun A B L i h1 h2 h3 h4 => by rw [hget_append (by rw [glen]; exact h4), hG]; simp [hget_set, Ne.symm h1, Ne.symm h2, Ne.symm h3]
  have gk : ∀ A B L k, hget (G A B ++ L) (H.length + k) = hget L k := fun A B L k => by rw [← glen A B]; exact hget_append_new
  have gs : ∀ A B L k b, (G A B ++ L).set (H.length + k) b = G A B ++ L.set k b := fun A B L k b => by rw [← glen A B]; exact hset_newk _ _ _ _
  have sm : ∀ A B L A', (G A B ++ L).set mi (some (.cells A' true ua)) = G A' B ++ L := fun A B L A' => by
    rw [List.set_append_left _ _ (by rw [glen]; exact hml), hG]
    simp only
    rw [List.set_comm _ _ hmn.symm, List.set_set]
  have sn : ∀ A B L B', (G A B ++ L).set ni (some (.cells B' true ub)) = G A B' ++ L := fun A B L B' => by
    rw [List.set_append_left _ _ (by rw [glen]; exact hnl), hG]
    simp only
    rw [List.set_set]
  have g0 : G A B = H.set oi none := by
    rw [hG]
    simp only
    have e1 : (H.set oi none).set mi (some (.cells A true ua)) = H.set oi none := by
      apply List.ext_getElem? 
      intro i
      rw [List.getElem?_set]
      split
      · rename_i hi; subst hi
        have : (H.set oi none)[mi]? = some (some (.cells A true ua)) := by
          rw [List.getElem?_set_ne hom]
          unfold hget at hA
          rw [List.getElem?_eq_getElem hml] at hA ⊢
          simpa using hA
        rw [if_pos (by simpa using hml)]; exact this.symm
      · rfl
    rw [e1]
    apply List.ext_getElem?
    intro i
    rw [List.getElem?_set]
    split
    · rename_i hi; subst hi
      have : (H.set oi none)[ni]? = some (some (.cells B true ub)) := by
        rw [List.getElem?_set_ne hon]
        unfold hget at hB
        rw [List.getElem?_eq_getElem hnl] at hB ⊢
        simpa using hB
      rw [if_pos (by simpa using hnl)]; exact this.symm
    · rfl
  have bad : wrV fs A B o = none → ∀ A1 B1 L1, R (.tuple #[.slice none 0 0, .bool false]) (G A1 B1 ++ L1) := fun e A1 B1 L1 => hR _ _ (by rw [e]; exact ⟨A1, B1, L1, by rw [hG], rfl⟩)
  have hfbl : fb < H.length := by
    unfold cellsAt at hcs
    split at hcs
    · rename_i hh; exact hget_lt hh
    · rename_i hh; exact hget_lt hh
    · cases hcs
  have gf : ∀ A B L, cellsB (hget (G A B ++ L) fb) = some cs := fun A B L => by rw [gx A B L fb hof.symm hfm hfn hfbl, ← cellsAt_eq]; exact hcs
  simp
  refine cw_open 0 1 (i := oi) (n := 1) (by simp) hO (by simp [ho]) (by intro q; have := congrArg List.length q; simp [ho] at this) (by unfold OPEN; omega) ?_
  rw [← g0]
  refine W_forS T xm (S := fun i (a : List Value × List Value × List UInt8 × Nat × Heap) => ⟨[(0, .v (.slice (some ⟨H.length + a.2.2.2.1, 0, none⟩) a.2.2.1.length OPEN)), (10, .v (.slice (some ⟨fb, 0, none⟩) fs.length c)), (11, .v (.int .i64 fs.length)), (12, .v (.int .i64 i))], G a.1 a.2.1 ++ a.2.2.2.2⟩)
    (fun i a => wrV fs A B o = wrV (fs.drop i) a.1 a.2.1 a.2.2.1 ∧ hget a.2.2.2.2 a.2.2.2.1 = some (grown (u8s a.2.2.1) 1) ∧ (∀ f ∈ fs, f.at a.1 a.2.1) ∧ a.2.2.1.length ≤ 1 + 7 * i) fs.length ⟨(A, B, o, 0, [some (grown (u8s o) 1)]), ⟨rfl, rfl, hat, by simp [ho]⟩, by simp [ho], rfl⟩ ?_
  rintro i ⟨A1, B1, o1, p, L⟩ hi ⟨hw, hp, hat1, hol⟩ K Q hK hQ
  simp only at hw hp hat1 hol hK
  have hc0 : i < fs.length ∨ i = fs.length := by omega
  rcases hc0 with hc | hi'
  · have hfi : fs[i]? = some fs[i] := List.getElem?_eq_getElem hc
    obtain ⟨hok, bx, hs, hbx⟩ := hFR i _ hfi
    obtain ⟨s1, s2⟩ := slc_some hs
    have hdrop : fs.drop i = fs[i] :: fs.drop (i + 1) := List.drop_eq_getElem_cons hc
    rw [hdrop] at hw
    obtain ⟨v, hv⟩ := hat1 fs[i] (List.getElem_mem hc)
    have hat2 : ∀ f ∈ fs, f.at (fs[i].stA A1 0) (fs[i].stB B1 0) := fun f hf => Fs.at_st (hat1 f hf) 0
    generalize fs[i] = f at *
    obtain ⟨now, k, lo, hi', sz, ax⟩ := f
    obtain ⟨hok1, hok7, hok2⟩ := hok
    simp only at hok1 hok7 hok2 hbx
    have hpl := hget_lt hp
    have gl : ∀ M, hget (L.set p none ++ M) L.length = hget M 0 := fun M => hget_at 0 (by simp)
    have gl2 : ∀ M, hget (L.set p none ++ M) (L.length + 2) = hget M 2 := fun M => hget_at 2 (by simp)
    cases now <;> cases ax <;> simp only [Fs.sel, Fs.stA, Fs.stB, Bool.false_eq_true, if_true, if_false] at hv hok2 hat2 hbx
    · -- now False ax False
      obtain ⟨u, hbx1, hbx2, hbx3⟩ := hbx trivial
      have hbx4 := hob bx ⟨_, _, hbx1⟩
      have hbx5 := hget_lt hbx1
      have hgx : ∀ L', hget (G A1 B1 ++ L') bx = some (.cells [.int .i64 sz] true u) := fun L' => by rw [gx _ _ _ _ hbx4 hbx2 hbx3 hbx5]; exact hbx1
      have hrd : Fs.rd ⟨false, k, lo, hi', sz, false⟩ A1 B1 = v := by simp [Fs.rd, Fs.sel, hv]
      simp only [wrV, hrd] at hw
      simp [hc, gf, s1, ← s2, Fs.cells, glen, gk, gs]
      refine cw_drawl T hm xm [0, 7, 10, 11, 12, 31] (.soft 0 false <| .soft 1 true <| .soft 2 true <| .soft 3 true <| .soft 4 false <| .soft 5 true <| .soft 6 false <| .soft 7 false <| .soft 8 false <| .soft 9 true <| .soft 10 true <| .soft 11 true <| .soft 12 false <| .soft 13 true <| .soft 14 false <| .soft 15 false <| .stop) (by kernel_rfl) fun K2 hK2 => ?_
      simp [gk, gm, hv]
      refine ⟨fun h1 => ?_, fun h1 => ?_⟩
      · refine hK2 _ ?_
        simp
        refine ⟨fun h2 => ?_, fun h2 => ?_⟩
        · rw [if_pos (.inr h2)] at hw
          refine hQ _ _ ?_
          simp
          exact Ans.refl (bad hw _ _ _)
        rw [if_neg (by omega)] at hw
        obtain ⟨w, rfl⟩ : ∃ w : Nat, v = w := ⟨v.toNat, by omega⟩
        refine cw_drawl T hm xm [0, 7, 8, 10, 11, 12] (.soft 0 false <| .soft 1 true <| .soft 2 false <| .soft 3 true <| .soft 4 true <| .soft 5 true <| .alt 6 true (.soft 7 false <| .soft 8 false <| .soft 9 false <| .soft 10 false <| .soft 11 false <| .stop) (.stop)) (by kernel_rfl) fun K3 hK3 => ?_
        simp [gk, gm, hv]
        refine CallK.is (plainPut_fn T w sz (by omega) (by omega) _ bx u (hgx _)) ?_
        simp [glen]
        refine hK3 _ ?_
        have hbl : (u8s (be sz w)).take sz = u8s (be sz w) := List.take_of_length_le (by simp)
        simp [gk, gs, hget_append hpl, hpl, hp, hbl, glen, gm, sm, gl]
        have hkl := (List.getElem?_eq_some_iff.1 hv).1
        repeat refine ⟨by omega, ?_⟩
        exact hK _ _ (A1.set k (.int .i64 0), B1, o1 ++ be sz w, L.length + 2, _) hc ⟨by simpa [Fs.stA, Fs.stB, Fs.bytes] using hw, (gl2 _).trans rfl, hat2, by simp; omega⟩ (by simp) rfl (by simp [glen])
      · refine hK2 _ ?_
        simp
        rw [if_pos (.inl h1)] at hw
        refine hQ _ _ ?_
        simp
        exact Ans.refl (bad hw _ _ _)
    · -- now False ax True
      have hrd : Fs.rd ⟨false, k, lo, hi', sz, true⟩ A1 B1 = v := by simp [Fs.rd, Fs.sel, hv]
      simp only [wrV, hrd] at hw
      simp [hc, gf, s1, ← s2, Fs.cells, glen, gk, gs]
      refine cw_drawl T hm xm [0, 7, 10, 11, 12, 31] (.soft 0 false <| .soft 1 true <| .soft 2 true <| .soft 3 true <| .soft 4 false <| .soft 5 true <| .soft 6 false <| .soft 7 false <| .soft 8 false <| .soft 9 true <| .soft 10 true <| .soft 11 true <| .soft 12 false <| .soft 13 true <| .soft 14 false <| .soft 15 false <| .stop) (by kernel_rfl) fun K2 hK2 => ?_
      simp [gk, gm, hv]
      refine ⟨fun h1 => ?_, fun h1 => ?_⟩
      · refine hK2 _ ?_
        simp
        refine ⟨fun h2 => ?_, fun h2 => ?_⟩
        · rw [if_pos (.inr h2)] at hw
          refine hQ _ _ ?_
          simp
          exact Ans.refl (bad hw _ _ _)
        rw [if_neg (by omega)] at hw
        refine cw_drawl T hm xm [0, 7, 8, 10, 11, 12] (.soft 0 false <| .soft 1 true <| .soft 2 false <| .soft 3 true <| .soft 4 true <| .soft 5 true <| .alt 6 true (.soft 7 false <| .soft 8 false <| .soft 9 false <| .soft 10 false <| .soft 11 false <| .stop) (.stop)) (by kernel_rfl) fun K3 hK3 => ?_
        simp [gk, gm, hv]
        refine CallK.is (putInt_be T v (by omega) (by omega) _) ?_
        simp [glen]
        refine hK3 _ ?_
        have hbl : (u8s (be 2 (v % 65536).toNat)).take 2 = u8s (be 2 (v % 65536).toNat) := List.take_of_length_le (by simp)
        simp [gk, gs, hget_append hpl, hpl, hp, hbl, glen, gm, sm, gl]
        have hkl := (List.getElem?_eq_some_iff.1 hv).1
        repeat refine ⟨by omega, ?_⟩
        exact hK _ _ (A1.set k (.int .i64 0), B1, o1 ++ be 2 (v % 65536).toNat, L.length + 2, _) hc ⟨by simpa [Fs.stA, Fs.stB, Fs.bytes] using hw, (gl2 _).trans rfl, hat2, by simp; omega⟩ (by simp) rfl (by simp [glen])
      · refine hK2 _ ?_
        simp
        rw [if_pos (.inl h1)] at hw
        refine hQ _ _ ?_
        simp
        exact Ans.refl (bad hw _ _ _)
    · -- now True ax False
      obtain ⟨u, hbx1, hbx2, hbx3⟩ := hbx trivial
      have hbx4 := hob bx ⟨_, _, hbx1⟩
      have hbx5 := hget_lt hbx1
      have hgx : ∀ L', hget (G A1 B1 ++ L') bx = some (.cells [.int .i64 sz] true u) := fun L' => by rw [gx _ _ _ _ hbx4 hbx2 hbx3 hbx5]; exact hbx1
      have hrd : Fs.rd ⟨true, k, lo, hi', sz, false⟩ A1 B1 = v := by simp [Fs.rd, Fs.sel, hv]
      simp only [wrV, hrd] at hw
      simp [hc, gf, s1, ← s2, Fs.cells, glen, gk, gs]
      refine cw_drawl T hm xm [0, 7, 10, 11, 12, 31] (.soft 0 false <| .soft 1 true <| .soft 2 true <| .soft 3 true <| .soft 4 false <| .soft 5 true <| .soft 6 false <| .soft 7 false <| .soft 8 false <| .soft 9 true <| .soft 10 true <| .soft 11 true <| .soft 12 false <| .soft 13 true <| .soft 14 false <| .soft 15 false <| .stop) (by kernel_rfl) fun K2 hK2 => ?_
      simp [gk, gn, hv]
      refine ⟨fun h1 => ?_, fun h1 => ?_⟩
      · refine hK2 _ ?_
        simp
        refine ⟨fun h2 => ?_, fun h2 => ?_⟩
        · rw [if_pos (.inr h2)] at hw
          refine hQ _ _ ?_
          simp
          exact Ans.refl (bad hw _ _ _)
        rw [if_neg (by omega)] at hw
        obtain ⟨w, rfl⟩ : ∃ w : Nat, v = w := ⟨v.toNat, by omega⟩
        refine cw_drawl T hm xm [0, 7, 8, 10, 11, 12] (.soft 0 false <| .soft 1 true <| .soft 2 false <| .soft 3 true <| .soft 4 true <| .soft 5 true <| .alt 6 true (.soft 7 false <| .soft 8 false <| .soft 9 false <| .soft 10 false <| .soft 11 false <| .stop) (.stop)) (by kernel_rfl) fun K3 hK3 => ?_
        simp [gk, gn, hv]
        refine CallK.is (plainPut_fn T w sz (by omega) (by omega) _ bx u (hgx _)) ?_
        simp [glen]
        refine hK3 _ ?_
        have hbl : (u8s (be sz w)).take sz = u8s (be sz w) := List.take_of_length_le (by simp)
        simp [gk, gs, hget_append hpl, hpl, hp, hbl, glen, gn, sn, gl]
        have hkl := (List.getElem?_eq_some_iff.1 hv).1
        repeat refine ⟨by omega, ?_⟩
        exact hK _ _ (A1, B1.set k (.int .i64 0), o1 ++ be sz w, L.length + 2, _) hc ⟨by simpa [Fs.stA, Fs.stB, Fs.bytes] using hw, (gl2 _).trans rfl, hat2, by simp; omega⟩ (by simp) rfl (by simp [glen])
      · refine hK2 _ ?_
        simp
        rw [if_pos (.inl h1)] at hw
        refine hQ _ _ ?_
        simp
        exact Ans.refl (bad hw _ _ _)
    · -- now True ax True
      have hrd : Fs.rd ⟨true, k, lo, hi', sz, true⟩ A1 B1 = v := by simp [Fs.rd, Fs.sel, hv]
      simp only [wrV, hrd] at hw
      simp [hc, gf, s1, ← s2, Fs.cells, glen, gk, gs]
      refine cw_drawl T hm xm [0, 7, 10, 11, 12, 31] (.soft 0 false <| .soft 1 true <| .soft 2 true <| .soft 3 true <| .soft 4 false <| .soft 5 true <| .soft 6 false <| .soft 7 false <| .soft 8 false <| .soft 9 true <| .soft 10 true <| .soft 11 true <| .soft 12 false <| .soft 13 true <| .soft 14 false <| .soft 15 false <| .stop) (by kernel_rfl) fun K2 hK2 => ?_
      simp [gk, gn, hv]
      refine ⟨fun h1 => ?_, fun h1 => ?_⟩
      · refine hK2 _ ?_
        simp
        refine ⟨fun h2 => ?_, fun h2 => ?_⟩
        · rw [if_pos (.inr h2)] at hw
          refine hQ _ _ ?_
          simp
          exact Ans.refl (bad hw _ _ _)
        rw [if_neg (by omega)] at hw
        refine cw_drawl T hm xm [0, 7, 8, 10, 11, 12] (.soft 0 false <| .soft 1 true <| .soft 2 false <| .soft 3 true <| .soft 4 true <| .soft 5 true <| .alt 6 true (.soft 7 false <| .soft 8 false <| .soft 9 false <| .soft 10 false <| .soft 11 false <| .stop) (.stop)) (by kernel_rfl) fun K3 hK3 => ?_
        simp [gk, gn, hv]
        refine CallK.is (putInt_be T v (by omega) (by omega) _) ?_
        simp [glen]
        refine hK3 _ ?_
        have hbl : (u8s (be 2 (v % 65536).toNat)).take 2 = u8s (be 2 (v % 65536).toNat) := List.take_of_length_le (by simp)
        simp [gk, gs, hget_append hpl, hpl, hp, hbl, glen, gn, sn, gl]
        have hkl := (List.getElem?_eq_some_iff.1 hv).1
        repeat refine ⟨by omega, ?_⟩
        exact hK _ _ (A1, B1.set k (.int .i64 0), o1 ++ be 2 (v % 65536).toNat, L.length + 2, _) hc ⟨by simpa [Fs.stA, Fs.stB, Fs.bytes] using hw, (gl2 _).trans rfl, hat2, by simp; omega⟩ (by simp) rfl (by simp [glen])
      · refine hK2 _ ?_
        simp
        rw [if_pos (.inl h1)] at hw
        refine hQ _ _ ?_
        simp
        exact Ans.refl (bad hw _ _ _)
  · subst hi'
    rw [List.drop_length] at hw
    simp
    refine hQ _ _ ?_
    simp
    refine Ans.refl (hR _ _ ?_)
    rw [hw]
    exact ⟨A1, B1, L, by rw [hG], rfl, rfl, p, hp, rfl⟩
end Go.Proofs
