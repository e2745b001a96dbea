/-
  Sx, part M: functions. Own words; no condition.
-/
import Derived.Test.YtfefdjomenfchaaSxL
namespace Go.Sx
open Go
variable {P : Program} {ty : TypeId → Option TD} {N : Nat}

noncomputable section
/-- What a function's results are. -/
def resC1 (ty : TypeId → Option TD) (s : St) (r : ResultVar) : Option Value :=
  match r with
  | .tmp t => ev true s.tm (.tmp t)
  | .cell a t => (ty t).bind fun d => (ev true s.tm (.tmp a)).bind fun p => loadC d s.h p
def resC (ty : TypeId → Option TD) (rs : List ResultVar) (s : St) : Option Value :=
  (all2 (rs.map (resC1 ty s))).bind fun vs => match vs with
    | [v] => some v
    | vs => some (.tuple vs.toArray)
def argTm : Nat → List Value → List (Nat × Ent)
  | _, [] => []
  | k, v :: r => (k, .v v) :: argTm (k + 1) r
end
theorem res1_sound (T : TyOk P ty) {ι : List Place} {s : St} {a : Act} {w : World} (L : Like ι s N a w) {r : ResultVar} {v : Value} (h : resC1 ty s r = some v) :
    ∃ y, (match r with
      | .tmp t => pure (a.tmps.getD t undef)
      | .cell c t => do loadVar t (← asAddr (a.tmps.getD c undef)) : Sem Value).run P w = .ok y w ∧ VR ι v y := by
  cases r with
  | tmp t => exact ⟨_, rfl, L.2.ev (x := .tmp t) rfl h⟩
  | cell c t =>
    simp only [resC1, Option.bind_eq_some_iff] at h
    obtain ⟨d, hd, p, hp, hl⟩ := h
    have hv := L.2.ev (x := .tmp c) rfl hp
    obtain ⟨y, hy, hr⟩ := run_loadVar T L.1 hd hv hl
    have hptr : ∃ b, a.tmps.getD c undef = .pointer (some b) := by
      have hv' : VR ι p (a.tmps.getD c undef) := hv
      unfold loadC at hl
      split at hl
      · obtain ⟨q, _, he⟩ := hv'.ptr_inv
        exact ⟨_, he⟩
      · simp at hl
    obtain ⟨b, hb⟩ := hptr
    refine ⟨y, ?_, hr⟩
    have hy' : (Instr.loadAt t (.pointer (some b))).run P w = .ok y w := by
      have e : a.eval (.tmp c) = .pointer (some b) := hb
      rw [← e]; exact hy
    simp only [Instr.loadAt, Instr.sureAddr, Sem.run_bind, Sem.run_pure, Result.andThen_ok] at hy'
    simp only [hb, asAddr, Sem.run_bind, Sem.run_pure, Result.andThen_ok, hy']
theorem res_list (T : TyOk P ty) {ι : List Place} {s : St} {a : Act} {w : World} (L : Like ι s N a w) : ∀ {rs : List ResultVar} {vs : List Value}, all2 (rs.map (resC1 ty s)) = some vs →
    ∃ ys : List Value, (rs.mapM fun (r : ResultVar) => (match r with
      | .tmp t => pure (a.tmps.getD t undef)
      | .cell c t => do loadVar t (← asAddr (a.tmps.getD c undef)) : Sem Value)).run P w = .ok ys w ∧ VRs ι vs ys
  | [], vs, h => by simp [all2] at h; subst h; exact ⟨[], by simp, trivial⟩
  | r :: rs, vs, h => by
    simp only [List.map_cons, all2, Option.bind_eq_some_iff, Option.map_eq_some_iff] at h
    obtain ⟨v, hv, l, hl, rfl⟩ := h
    obtain ⟨y, hy, hr⟩ := res1_sound T L hv
    obtain ⟨ys, hys, hrs⟩ := res_list T L hl
    refine ⟨y :: ys, ?_, hr, hrs⟩
    simp only [List.mapM_cons, Sem.run_bind]
    rw [hy]
    simp only [Result.andThen_ok]
    rw [hys]
    rfl
theorem res_sound (T : TyOk P ty) {ι : List Place} {s : St} {a : Act} {w : World} (L : Like ι s N a w) {fn : Func} {v : Value} (h : resC ty fn.results.toList s = some v) :
    ∃ y, (results fn a.tmps).run P w = .ok y w ∧ VR ι v y := by
  simp only [resC, Option.bind_eq_some_iff] at h
  obtain ⟨vs, hvs, h⟩ := h
  obtain ⟨ys, hys, hr⟩ := res_list T L hvs
  have hm : (fn.results.mapM fun (r : ResultVar) => (match r with
      | .tmp t => pure (a.tmps.getD t undef)
      | .cell c t => do loadVar t (← asAddr (a.tmps.getD c undef)) : Sem Value)).run P w = .ok ys.toArray w := by
    rw [Array.mapM_eq_mapM_toList]
    simp only [Sem.run_map, hys, Result.andThen_ok]
  have hrun : (results fn a.tmps).run P w = .ok (if h : ys.toArray.size = 1 then ys.toArray[0] else .tuple ys.toArray) w := by
    unfold results
    simp only [Sem.run_bind]
    have key : ∀ g : ResultVar → Sem Value, (∀ r, g r = (match r with
      | .tmp t => pure (a.tmps.getD t undef)
      | .cell c t => do loadVar t (← asAddr (a.tmps.getD c undef)) : Sem Value)) → (fn.results.mapM g).run P w = .ok ys.toArray w := fun g hg => by
      rw [show g = _ from funext hg]; exact hm
    rw [key _ (fun r => by cases r <;> rfl)]
    rfl
  refine ⟨_, hrun, ?_⟩
  match vs, ys, hr, h with
  | [v0], [y0], ⟨h0, _⟩, h => simp at h; subst h; simpa using h0
  | [], [], _, h => simp at h; subst h; exact undef_VR
  | v0 :: v1 :: r, y0 :: y1 :: r', hr, h =>
    simp at h; subst h
    rw [dif_neg (by simp)]
    exact VR.tuple' (by simpa using hr)
theorem argTm_lk : ∀ (args : List Value) (k t : Nat) (e : Ent), lk (argTm k args) t = some e → k ≤ t ∧ ∃ v, args[t - k]? = some v ∧ e = .v v
  | [], _, _, _, h => by simp [argTm, lk] at h
  | v :: r, k, t, e, h => by
    simp only [argTm, lk] at h
    split at h
    · rename_i hk; subst hk; simp at h; subst h; exact ⟨Nat.le_refl _, v, by simp, rfl⟩
    · rename_i hk
      obtain ⟨h1, u, h2, h3⟩ := argTm_lk r (k + 1) t e h
      refine ⟨by omega, u, ?_, h3⟩
      rw [show t - k = (t - (k + 1)) + 1 by omega]; simpa using h2
/-- What is handed back may be told by other numbers: the answer v in the heap h may be told as v' in h'. -/
def Ret (H : Heap) (v : Value) (h : Heap) (v' : Value) (h' : Heap) : Prop :=
  ∀ ι w0 κ w y, RelH ι H w0 → VR κ v y → RelH κ h w → Grow ι H w0 κ h w → ∃ κ', VR κ' v' y ∧ RelH κ' h' w ∧ Grow ι H w0 κ' h' w
theorem Ret.refl (H : Heap) (v : Value) (h : Heap) : Ret H v h v h := fun _ _ κ _ _ _ hv hR hG => ⟨κ, hv, hR, hG⟩
theorem fn_intro (T : TyOk P ty) {f : FuncId} {fn : Func} {c : Code} (hf : P.funcs[f]? = some fn) (hb : fn.body = some c) (hn : (fn.name == "runtime.NumGoroutine") = false) {args : List Value} (hl : args.length ≤ fn.ntmps) {H : Heap} {R : Value → Heap → Prop}
    (h : CW P fn.ntmps c ⟨argTm 0 args, H⟩ fun e s => (e = .normal ∨ e = .ret) ∧ ∃ v v' h', resC ty fn.results.toList s = some v ∧ Ret H v s.h v' h' ∧ R v' h') : Fn P f args H R := by
  refine ⟨⟨fn, hf, by rw [hb]; rfl, hn⟩, fun ι w args' RH r => ?_⟩
  have hlen := r.length
  refine calls_of_wp hf hb ?_
  have L : Like ι ⟨argTm 0 args, H⟩ fn.ntmps { tmps := args'.toArray ++ Array.replicate (fn.ntmps - args'.toArray.size) undef, defers := [] } w := by
    refine ⟨RH, rfl, by simp; omega, fun t e ht => ?_⟩
    obtain ⟨_, v, hv, rfl⟩ := argTm_lk args 0 t e ht
    rw [Nat.sub_zero] at hv
    obtain ⟨y, hy, hr⟩ := r.get' hv
    refine ⟨y, ?_, hr⟩
    have hlt := (List.getElem?_eq_some_iff.1 hy).1
    rw [Array.getElem?_append_left (by simpa using hlt)]
    simpa using hy
  refine Code.wp_mono ?_ (h ι _ w L)
  rintro e a' w' ⟨κ, s', ⟨he, v, v', h', hres, hret, hR⟩, L', g⟩
  obtain ⟨y, hy, hv⟩ := res_sound T L' hres
  obtain ⟨κ', q1, q2, q3⟩ := hret ι w κ w' y RH hv L'.1 g
  rcases he with rfl | rfl
  · exact ⟨L'.2.1, y, hy, κ', v', y, h', hR, rfl, q1, q2, q3⟩
  · exact ⟨L'.2.1, y, hy, κ', v', y, h', hR, rfl, q1, q2, q3⟩
theorem EsR.within {ι : List Place} : ∀ {xs ys : List MapEntry}, EsR ι xs ys → ∀ e ∈ xs, Scoped ι.length e.key ∧ Scoped ι.length e.val
  | [], [], _, e, he => by simp at he
  | x :: xs, y :: ys, ⟨a, b, _, d⟩, e, he => by
    simp at he
    rcases he with rfl | he
    · exact ⟨a.within, b.within⟩
    · exact EsR.within d e he
  | [], _ :: _, h, _, _ => h.elim
  | _ :: _, [], h, _, _ => h.elim
theorem RelH.within {ι : List Place} {H : Heap} {w : World} (R : RelH ι H w) {i : Nat} {b : Blk} (hb : hget H i = some b) : ScopedB H.length b := by
  rw [← R.len]
  obtain ⟨p, hp, r⟩ := R.blk i b hb
  cases b with
  | cells cs o u =>
    intro x hx
    obtain ⟨k, hk, rfl⟩ := List.getElem_of_mem hx
    obtain ⟨y, _, hr⟩ := r.1 k cs[k] (by simp [hk])
    exact hr.within
  | void u => trivial
  | map es c =>
    obtain ⟨es', _, h2⟩ := r
    exact h2.within
/-- The last answer: with nothing of the call's own. -/
theorem Ret.app0 {H G L : Heap} {v : Value} (hv : Scoped H.length v) (hl : G.length = H.length) (hG' : ∀ i b, hget G i = some b → hget H i = some b ∨ ScopedB H.length b) : Ret H v (G ++ L) v G := by
  intro ι w0 κ w y R0 hv' R g
  have hG : ∀ i b, hget G i = some b → ScopedB H.length b := fun i b hb => (hG' i b hb).elim (fun h => R0.within h) id
  have hk : κ.length = G.length + L.length := by rw [R.len]; simp
  have W : Weak ⟨[], G⟩ ⟨[], G ++ L⟩ := by
    refine ⟨by simp, fun t e ht => by simp [lk] at ht, fun i b hb => ⟨by rw [hget_append (hget_lt hb)]; exact hb, .inr (by simp only; rw [hl]; exact hG i b hb)⟩⟩
  have L' : Like κ ⟨[], G ++ L⟩ 0 { tmps := #[], defers := [] } w := ⟨R, rfl, rfl, fun t e ht => by simp [lk] at ht⟩
  obtain ⟨L1, g1⟩ := W.sound L'
  refine ⟨κ.take G.length, hv'.cut (by rw [hl]; exact hv), L1.1, g1 ι H w0 g (by simp [hl]) R0.len⟩
/-- The last answer: a slice of one block of the call's own, of plain cells. -/
theorem Ret.app1 {H G L : Heap} {k o l c : Nat} {cs : List Value} {own : Bool} {u : Nat} (hk : L[k]? = some (some (.cells cs own u))) (hc : ∀ x ∈ cs, closed1 x = true) (hl : G.length = H.length) (hG' : ∀ i b, hget G i = some b → hget H i = some b ∨ ScopedB H.length b) :
    Ret H (.slice (some ⟨H.length + k, o, none⟩) l c) (G ++ L) (.slice (some ⟨H.length, o, none⟩) l c) (G ++ [some (.cells cs own u)]) := by
  intro ι w0 κ w y R0 hv R g
  have hG : ∀ i b, hget G i = some b → ScopedB H.length b := fun i b hb => (hG' i b hb).elim (fun h => R0.within h) id
  have hkl := (List.getElem?_eq_some_iff.1 hk).1
  have hκ : κ.length = G.length + L.length := by rw [R.len]; simp
  have hgk : hget (G ++ L) (H.length + k) = some (.cells cs own u) := by rw [← hl, hget_append_new, hget, hk]; rfl
  obtain ⟨p, hp, hb⟩ := R.blk _ _ hgk
  have hιl : ι.length = H.length := R0.len
  have htl : (κ.take H.length).length = H.length := by rw [List.length_take]; omega
  have hnew : (κ.take H.length ++ [p])[H.length]? = some p := by rw [List.getElem?_append_right (by omega)]; simp [htl]
  have hold : ∀ i, i < H.length → ∀ q, (κ.take H.length ++ [p])[i]? = some q ↔ κ[i]? = some q := fun i hi q => by
    rw [List.getElem?_append_left (by omega), List.getElem?_take_of_lt hi]
  have which : ∀ i b, hget (G ++ [some (.cells cs own u)]) i = some b → (i < H.length ∧ hget G i = some b ∧ hget (G ++ L) i = some b) ∨ (i = H.length ∧ b = .cells cs own u) := by
    intro i b hi
    have hlt := hget_lt hi
    by_cases h : i < G.length
    · rw [hget_append h] at hi
      exact .inl ⟨by omega, hi, by rw [hget_append h]; exact hi⟩
    · have : i = G.length := by simp at hlt; omega
      subst this
      have e := hget_append_new (h := G) (g := [some (Blk.cells cs own u)]) (k := 0)
      rw [Nat.add_zero] at e
      rw [e] at hi; simp [hget] at hi
      exact .inr ⟨hl, hi.symm⟩
  have hpre : κ.take H.length <+: κ.take H.length ++ [p] := List.prefix_append _ _
  refine ⟨κ.take H.length ++ [p], ?_, ⟨by simp [htl, hl], ?_, ?_⟩, ⟨?_, g.os, g.tape, g.output, g.size, g.keep, ?_⟩⟩
  · rcases hv.slice_inv with ⟨i, k', q, he, hq, hc', rfl⟩ | ⟨i, k', q, c', he, rfl, hq, h1, h2, rfl⟩ | ⟨b, rfl | rfl, rfl, rfl, _⟩ | ⟨rfl, rfl, rfl, _⟩
    · simp at he; obtain ⟨rfl, rfl⟩ := he
      rw [hp] at hq; simp at hq; subst hq
      exact .slice _ _ _ _ p hnew hc'
    · simp at he; obtain ⟨rfl, rfl⟩ := he
      rw [hp] at hq; simp at hq; subst hq
      exact .sliceO _ _ _ _ p hnew h1 h2
    · exact .sliceE _ _ p _ hnew
    · exact .sliceZ _ _ p _ hnew
    · exact .sliceN _ _ p hnew
  · intro i b hi
    rcases which i b hi with ⟨h1, h2, h3⟩ | ⟨rfl, rfl⟩
    · obtain ⟨q, hq, r⟩ := R.blk i b h3
      refine ⟨q, (hold i h1 q).2 hq, ?_⟩
      have hs := hG i b h2
      cases b with
      | cells cs' o' u' =>
        obtain ⟨a1, a2, a3⟩ := r
        refine ⟨fun j x hx => ?_, a2, a3⟩
        obtain ⟨y, hy, hr⟩ := a1 j x hx
        exact ⟨y, hy, (hr.cut (hs x (List.mem_of_getElem? hx))).mono hpre⟩
      | void u => exact r
      | map es c' =>
        obtain ⟨es', a1, a2⟩ := r
        exact ⟨es', a1, (a2.cut hs).mono hpre⟩
    · refine ⟨p, hnew, ?_⟩
      obtain ⟨a1, a2, a3⟩ := hb
      refine ⟨fun j x hx => ?_, a2, a3⟩
      obtain ⟨y, hy, hr⟩ := a1 j x hx
      obtain rfl := hr.closed_inv (hc x (List.mem_of_getElem? hx))
      exact ⟨y, hy, .same _ (hc y (List.mem_of_getElem? hx))⟩
  · intro i j b d q q' h1 h2 h3 hsd h4 h5 h6
    have back : ∀ i b q, hget (G ++ [some (.cells cs own u)]) i = some b → (κ.take H.length ++ [p])[i]? = some q → ∃ m, hget (G ++ L) m = some b ∧ κ[m]? = some q ∧ (i < H.length ∧ m = i ∨ i = H.length ∧ m = H.length + k) := by
      intro i b q hi hq
      rcases which i b hi with ⟨e1, e2, e3⟩ | ⟨rfl, rfl⟩
      · exact ⟨i, e3, (hold i e1 q).1 hq, .inl ⟨e1, rfl⟩⟩
      · rw [hnew] at hq; simp at hq; subst hq
        exact ⟨_, hgk, hp, .inr ⟨rfl, rfl⟩⟩
    obtain ⟨m1, a1, a2, a3⟩ := back i b q h1 h5
    obtain ⟨m2, b1, b2, b3⟩ := back j d q' h3 h6
    exact R.apart m1 m2 b d q q' a1 h2 b1 hsd (by omega) a2 b2
  · obtain ⟨t, ht⟩ := g.pre
    refine ⟨[p], ?_⟩
    rw [← ht, List.take_append_of_le_length (by omega), List.take_of_length_le (by omega)]
  · intro i c q h1 h2 h3
    rcases which i c h1 with ⟨e1, e2, e3⟩ | ⟨rfl, rfl⟩
    · exact g.own i c q e3 h2 ((hold i e1 q).1 h3)
    · rw [hnew] at h3; simp at h3; subst h3
      exact g.own _ _ p hgk h2 hp
end Go.Sx
