/-
  Walks by Sx; no condition beyond those that stand in each statement.
-/
import Derived.Test.YtfjdbhgnnpmceaaSxb3
section
/-
  Sx, part M: functions. Own words; no condition.
-/
namespace Go.Sx
open Go
variable {P : Program} {ty : TypeId → Option TD} {N : Nat}

noncomputable section
/-- What a function's results are. -/
def resC1 (ty : TypeId → Option TD) (s : St) (r : ResultVar) : Option Value :=
  match r with
  | .tmp t => ev true s.tm (.tmp t)
  | .cell a t => (ty t).bind fun d => (ev true s.tm (.tmp a)).bind fun p => loadC d s.h p
def resC (ty : TypeId → Option TD) (rs : List ResultVar) (s : St) : Option Value :=
  (all2 (rs.map (resC1 ty s))).bind fun vs => match vs with
    | [v] => some v
    | vs => some (.tuple vs.toArray)
def argTm : Nat → List Value → List (Nat × Ent)
  | _, [] => []
  | k, v :: r => (k, .v v) :: argTm (k + 1) r
end
theorem res1_sound (T : TyOk P ty) {ι : List Place} {s : St} {a : Act} {w : World} (L : Like ι s N a w) {r : ResultVar} {v : Value} (h : resC1 ty s r = some v) :
    ∃ y, (match r with
      | .tmp t => pure (a.tmps.getD t undef)
      | .cell c t => do loadVar t (← asAddr (a.tmps.getD c undef)) : Sem Value).run P w = .ok y w ∧ VR ι v y := by
  cases r with
  | tmp t => exact ⟨_, rfl, L.2.ev (x := .tmp t) rfl h⟩
  | cell c t =>
    simp only [resC1, Option.bind_eq_some_iff] at h
    obtain ⟨d, hd, p, hp, hl⟩ := h
    have hv := L.2.ev (x := .tmp c) rfl hp
    obtain ⟨y, hy, hr⟩ := run_loadVar T L.1 hd hv hl
    have hptr : ∃ b, a.tmps.getD c undef = .pointer (some b) := by
      have hv' : VR ι p (a.tmps.getD c undef) := hv
      unfold loadC at hl
      split at hl
      · obtain ⟨q, _, he⟩ := hv'.ptr_inv
        exact ⟨_, he⟩
      · simp at hl
    obtain ⟨b, hb⟩ := hptr
    refine ⟨y, ?_, hr⟩
    have hy' : (Instr.loadAt t (.pointer (some b))).run P w = .ok y w := by
      have e : a.eval (.tmp c) = .pointer (some b) := hb
      rw [← e]; exact hy
    simp only [Instr.loadAt, Instr.sureAddr, Sem.run_bind, Sem.run_pure, Result.andThen_ok] at hy'
    simp only [hb, asAddr, Sem.run_bind, Sem.run_pure, Result.andThen_ok, hy']
theorem res_list (T : TyOk P ty) {ι : List Place} {s : St} {a : Act} {w : World} (L : Like ι s N a w) : ∀ {rs : List ResultVar} {vs : List Value}, all2 (rs.map (resC1 ty s)) = some vs →
    ∃ ys : List Value, (rs.mapM fun (r : ResultVar) => (match r with
      | .tmp t => pure (a.tmps.getD t undef)
      | .cell c t => do loadVar t (← asAddr (a.tmps.getD c undef)) : Sem Value)).run P w = .ok ys w ∧ VRs ι vs ys
  | [], vs, h => by simp [all2] at h; subst h; exact ⟨[], by simp, trivial⟩
  | r :: rs, vs, h => by
    simp only [List.map_cons, all2, Option.bind_eq_some_iff, Option.map_eq_some_iff] at h
    obtain ⟨v, hv, l, hl, rfl⟩ := h
    obtain ⟨y, hy, hr⟩ := res1_sound T L hv
    obtain ⟨ys, hys, hrs⟩ := res_list T L hl
    refine ⟨y :: ys, ?_, hr, hrs⟩
    simp only [List.mapM_cons, Sem.run_bind]
    rw [hy]
    simp only [Result.andThen_ok]
    rw [hys]
    rfl
theorem res_sound (T : TyOk P ty) {ι : List Place} {s : St} {a : Act} {w : World} (L : Like ι s N a w) {fn : Func} {v : Value} (h : resC ty fn.results.toList s = some v) :
    ∃ y, (results fn a.tmps).run P w = .ok y w ∧ VR ι v y := by
  simp only [resC, Option.bind_eq_some_iff] at h
  obtain ⟨vs, hvs, h⟩ := h
  obtain ⟨ys, hys, hr⟩ := res_list T L hvs
  have hm : (fn.results.mapM fun (r : ResultVar) => (match r with
      | .tmp t => pure (a.tmps.getD t undef)
      | .cell c t => do loadVar t (← asAddr (a.tmps.getD c undef)) : Sem Value)).run P w = .ok ys.toArray w := by
    rw [Array.mapM_eq_mapM_toList]
    simp only [Sem.run_map, hys, Result.andThen_ok]
  have hrun : (results fn a.tmps).run P w = .ok (if h : ys.toArray.size = 1 then ys.toArray[0] else .tuple ys.toArray) w := by
    unfold results
    simp only [Sem.run_bind]
    have key : ∀ g : ResultVar → Sem Value, (∀ r, g r = (match r with
      | .tmp t => pure (a.tmps.getD t undef)
      | .cell c t => do loadVar t (← asAddr (a.tmps.getD c undef)) : Sem Value)) → (fn.results.mapM g).run P w = .ok ys.toArray w := fun g hg => by
      rw [show g = _ from funext hg]; exact hm
    rw [key _ (fun r => by cases r <;> rfl)]
    rfl
  refine ⟨_, hrun, ?_⟩
  match vs, ys, hr, h with
  | [v0], [y0], ⟨h0, _⟩, h => simp at h; subst h; simpa using h0
  | [], [], _, h => simp at h; subst h; exact undef_VR
  | v0 :: v1 :: r, y0 :: y1 :: r', hr, h =>
    simp at h; subst h
    rw [dif_neg (by simp)]
    exact VR.tuple' (by simpa using hr)
theorem argTm_lk : ∀ (args : List Value) (k t : Nat) (e : Ent), lk (argTm k args) t = some e → k ≤ t ∧ ∃ v, args[t - k]? = some v ∧ e = .v v
  | [], _, _, _, h => by simp [argTm, lk] at h
  | v :: r, k, t, e, h => by
    simp only [argTm, lk] at h
    split at h
    · rename_i hk; subst hk; simp at h; subst h; exact ⟨Nat.le_refl _, v, by simp, rfl⟩
    · rename_i hk
      obtain ⟨h1, u, h2, h3⟩ := argTm_lk r (k + 1) t e h
      refine ⟨by omega, u, ?_, h3⟩
      rw [show t - k = (t - (k + 1)) + 1 by omega]; simpa using h2
/-- What is handed back may be told by other numbers: the answer v in the heap h may be told as v' in h'. -/
def Ret (H : Heap) (v : Value) (h : Heap) (v' : Value) (h' : Heap) : Prop :=
  ∀ ι w0 κ w y, RelH ι H w0 → VR κ v y → RelH κ h w → Grow ι H w0 κ h w → ∃ κ', VR κ' v' y ∧ RelH κ' h' w ∧ Grow ι H w0 κ' h' w
theorem Ret.refl (H : Heap) (v : Value) (h : Heap) : Ret H v h v h := fun _ _ κ _ _ _ hv hR hG => ⟨κ, hv, hR, hG⟩
theorem fn_intro (T : TyOk P ty) {f : FuncId} {fn : Func} {c : Code} (hf : P.funcs[f]? = some fn) (hb : fn.body = some c) (hn : (fn.name == "runtime.NumGoroutine") = false) {args : List Value} (hl : args.length ≤ fn.ntmps) {H : Heap} {R : Value → Heap → Prop}
    (h : CW P fn.ntmps c ⟨argTm 0 args, H⟩ fun e s => (e = .normal ∨ e = .ret) ∧ ∃ v v' h', resC ty fn.results.toList s = some v ∧ Ret H v s.h v' h' ∧ R v' h') : Fn P f args H R := by
  refine ⟨⟨fn, hf, by rw [hb]; rfl, hn⟩, fun ι w args' RH r => ?_⟩
  have hlen := r.length
  refine calls_of_wp hf hb ?_
  have L : Like ι ⟨argTm 0 args, H⟩ fn.ntmps { tmps := args'.toArray ++ Array.replicate (fn.ntmps - args'.toArray.size) undef, defers := [] } w := by
    refine ⟨RH, rfl, by simp; omega, fun t e ht => ?_⟩
    obtain ⟨_, v, hv, rfl⟩ := argTm_lk args 0 t e ht
    rw [Nat.sub_zero] at hv
    obtain ⟨y, hy, hr⟩ := r.get' hv
    refine ⟨y, ?_, hr⟩
    have hlt := (List.getElem?_eq_some_iff.1 hy).1
    rw [Array.getElem?_append_left (by simpa using hlt)]
    simpa using hy
  refine Code.wp_mono ?_ (h ι _ w L)
  rintro e a' w' ⟨κ, s', ⟨he, v, v', h', hres, hret, hR⟩, L', g⟩
  obtain ⟨y, hy, hv⟩ := res_sound T L' hres
  obtain ⟨κ', q1, q2, q3⟩ := hret ι w κ w' y RH hv L'.1 g
  rcases he with rfl | rfl
  · exact ⟨L'.2.1, y, hy, κ', v', y, h', hR, rfl, q1, q2, q3⟩
  · exact ⟨L'.2.1, y, hy, κ', v', y, h', hR, rfl, q1, q2, q3⟩
theorem EsR.within {ι : List Place} : ∀ {xs ys : List MapEntry}, EsR ι xs ys → ∀ e ∈ xs, Scoped ι.length e.key ∧ Scoped ι.length e.val
  | [], [], _, e, he => by simp at he
  | x :: xs, y :: ys, ⟨a, b, _, d⟩, e, he => by
    simp at he
    rcases he with rfl | he
    · exact ⟨a.within, b.within⟩
    · exact EsR.within d e he
  | [], _ :: _, h, _, _ => h.elim
  | _ :: _, [], h, _, _ => h.elim
theorem RelH.within {ι : List Place} {H : Heap} {w : World} (R : RelH ι H w) {i : Nat} {b : Blk} (hb : hget H i = some b) : ScopedB H.length b := by
  rw [← R.len]
  obtain ⟨p, hp, r⟩ := R.blk i b hb
  cases b with
  | cells cs o u =>
    intro x hx
    obtain ⟨k, hk, rfl⟩ := List.getElem_of_mem hx
    obtain ⟨y, _, hr⟩ := r.1 k cs[k] (by simp [hk])
    exact hr.within
  | void u => trivial
  | map es c =>
    obtain ⟨es', _, h2⟩ := r
    exact h2.within
/-- The last answer: with nothing of the call's own. -/
theorem Ret.app0 {H G L : Heap} {v : Value} (hv : Scoped H.length v) (hl : G.length = H.length) (hG' : ∀ i b, hget G i = some b → hget H i = some b ∨ ScopedB H.length b) : Ret H v (G ++ L) v G := by
  intro ι w0 κ w y R0 hv' R g
  have hG : ∀ i b, hget G i = some b → ScopedB H.length b := fun i b hb => (hG' i b hb).elim (fun h => R0.within h) id
  have hk : κ.length = G.length + L.length := by rw [R.len]; simp
  have W : Weak ⟨[], G⟩ ⟨[], G ++ L⟩ := by
    refine ⟨by simp, fun t e ht => by simp [lk] at ht, fun i b hb => ⟨by rw [hget_append (hget_lt hb)]; exact hb, .inr (by simp only; rw [hl]; exact hG i b hb)⟩⟩
  have L' : Like κ ⟨[], G ++ L⟩ 0 { tmps := #[], defers := [] } w := ⟨R, rfl, rfl, fun t e ht => by simp [lk] at ht⟩
  obtain ⟨L1, g1⟩ := W.sound L'
  refine ⟨κ.take G.length, hv'.cut (by rw [hl]; exact hv), L1.1, g1 ι H w0 g (by simp [hl]) R0.len⟩
/-- The last answer: a slice of one block of the call's own, of plain cells. -/
theorem Ret.app1 {H G L : Heap} {k o l c : Nat} {cs : List Value} {own : Bool} {u : Nat} (hk : L[k]? = some (some (.cells cs own u))) (hc : ∀ x ∈ cs, closed1 x = true) (hl : G.length = H.length) (hG' : ∀ i b, hget G i = some b → hget H i = some b ∨ ScopedB H.length b) :
    Ret H (.slice (some ⟨H.length + k, o, none⟩) l c) (G ++ L) (.slice (some ⟨H.length, o, none⟩) l c) (G ++ [some (.cells cs own u)]) := by
  intro ι w0 κ w y R0 hv R g
  have hG : ∀ i b, hget G i = some b → ScopedB H.length b := fun i b hb => (hG' i b hb).elim (fun h => R0.within h) id
  have hkl := (List.getElem?_eq_some_iff.1 hk).1
  have hκ : κ.length = G.length + L.length := by rw [R.len]; simp
  have hgk : hget (G ++ L) (H.length + k) = some (.cells cs own u) := by rw [← hl, hget_append_new, hget, hk]; rfl
  obtain ⟨p, hp, hb⟩ := R.blk _ _ hgk
  have hιl : ι.length = H.length := R0.len
  have htl : (κ.take H.length).length = H.length := by rw [List.length_take]; omega
  have hnew : (κ.take H.length ++ [p])[H.length]? = some p := by rw [List.getElem?_append_right (by omega)]; simp [htl]
  have hold : ∀ i, i < H.length → ∀ q, (κ.take H.length ++ [p])[i]? = some q ↔ κ[i]? = some q := fun i hi q => by
    rw [List.getElem?_append_left (by omega), List.getElem?_take_of_lt hi]
  have which : ∀ i b, hget (G ++ [some (.cells cs own u)]) i = some b → (i < H.length ∧ hget G i = some b ∧ hget (G ++ L) i = some b) ∨ (i = H.length ∧ b = .cells cs own u) := by
    intro i b hi
    have hlt := hget_lt hi
    by_cases h : i < G.length
    · rw [hget_append h] at hi
      exact .inl ⟨by omega, hi, by rw [hget_append h]; exact hi⟩
    · have : i = G.length := by simp at hlt; omega
      subst this
      have e := hget_append_new (h := G) (g := [some (Blk.cells cs own u)]) (k := 0)
      rw [Nat.add_zero] at e
      rw [e] at hi; simp [hget] at hi
      exact .inr ⟨hl, hi.symm⟩
  have hpre : κ.take H.length <+: κ.take H.length ++ [p] := List.prefix_append _ _
  refine ⟨κ.take H.length ++ [p], ?_, ⟨by simp [htl, hl], ?_, ?_⟩, ⟨?_, g.os, g.tape, g.output, g.size, g.keep, ?_⟩⟩
  · rcases hv.slice_inv with ⟨i, k', q, he, hq, hc', rfl⟩ | ⟨i, k', q, c', he, rfl, hq, h1, h2, rfl⟩ | ⟨b, rfl | rfl, rfl, rfl, _⟩ | ⟨rfl, rfl, rfl, _⟩
    · simp at he; obtain ⟨rfl, rfl⟩ := he
      rw [hp] at hq; simp at hq; subst hq
      exact .slice _ _ _ _ p hnew hc'
    · simp at he; obtain ⟨rfl, rfl⟩ := he
      rw [hp] at hq; simp at hq; subst hq
      exact .sliceO _ _ _ _ p hnew h1 h2
    · exact .sliceE _ _ p _ hnew
    · exact .sliceZ _ _ p _ hnew
    · exact .sliceN _ _ p hnew
  · intro i b hi
    rcases which i b hi with ⟨h1, h2, h3⟩ | ⟨rfl, rfl⟩
    · obtain ⟨q, hq, r⟩ := R.blk i b h3
      refine ⟨q, (hold i h1 q).2 hq, ?_⟩
      have hs := hG i b h2
      cases b with
      | cells cs' o' u' =>
        obtain ⟨a1, a2, a3⟩ := r
        refine ⟨fun j x hx => ?_, a2, a3⟩
        obtain ⟨y, hy, hr⟩ := a1 j x hx
        exact ⟨y, hy, (hr.cut (hs x (List.mem_of_getElem? hx))).mono hpre⟩
      | void u => exact r
      | map es c' =>
        obtain ⟨es', a1, a2⟩ := r
        exact ⟨es', a1, (a2.cut hs).mono hpre⟩
    · refine ⟨p, hnew, ?_⟩
      obtain ⟨a1, a2, a3⟩ := hb
      refine ⟨fun j x hx => ?_, a2, a3⟩
      obtain ⟨y, hy, hr⟩ := a1 j x hx
      obtain rfl := hr.closed_inv (hc x (List.mem_of_getElem? hx))
      exact ⟨y, hy, .same _ (hc y (List.mem_of_getElem? hx))⟩
  · intro i j b d q q' h1 h2 h3 hsd h4 h5 h6
    have back : ∀ i b q, hget (G ++ [some (.cells cs own u)]) i = some b → (κ.take H.length ++ [p])[i]? = some q → ∃ m, hget (G ++ L) m = some b ∧ κ[m]? = some q ∧ (i < H.length ∧ m = i ∨ i = H.length ∧ m = H.length + k) := by
      intro i b q hi hq
      rcases which i b hi with ⟨e1, e2, e3⟩ | ⟨rfl, rfl⟩
      · exact ⟨i, e3, (hold i e1 q).1 hq, .inl ⟨e1, rfl⟩⟩
      · rw [hnew] at hq; simp at hq; subst hq
        exact ⟨_, hgk, hp, .inr ⟨rfl, rfl⟩⟩
    obtain ⟨m1, a1, a2, a3⟩ := back i b q h1 h5
    obtain ⟨m2, b1, b2, b3⟩ := back j d q' h3 h6
    exact R.apart m1 m2 b d q q' a1 h2 b1 hsd (by omega) a2 b2
  · obtain ⟨t, ht⟩ := g.pre
    refine ⟨[p], ?_⟩
    rw [← ht, List.take_append_of_le_length (by omega), List.take_of_length_le (by omega)]
  · intro i c q h1 h2 h3
    rcases which i c h1 with ⟨e1, e2, e3⟩ | ⟨rfl, rfl⟩
    · exact g.own i c q e3 h2 ((hold i e1 q).1 h3)
    · rw [hnew] at h3; simp at h3; subst h3
      exact g.own _ _ p hgk h2 hp
end Go.Sx
end
section
/-
  Sx, part N: what is known of a program's types. Own words; no condition.
-/
namespace Go.Sx
open Go
noncomputable section
/-- What a program says of a type; eqs are those whose values may be held against each other cell by cell. -/
def tyOf (P : Program) (eqs : List Nat) (t : TypeId) : Option TD :=
  (P.info? t).bind fun i => (P.underlying t).bind fun d => i.zero.bind fun v =>
    if v.cells.toList.length = i.size ∧ v.cells.toList.all closed1 = true then some ⟨d, i.size, i.bytes, v.cells.toList, eqs.contains t⟩ else none
end
/-- The types that eqs names may be held against each other so. -/
def EqsOk (P : Program) (eqs : List Nat) : Prop := ∀ t ∈ eqs, ∀ d, tyOf P eqs t = some d → ∀ (w : World) xs ys b, flatEq d.zero xs ys = some b → (Op.equal t (.agg xs.toArray) (.agg ys.toArray)).run P w = .ok b w ∧ P.eqGuardType P.depth t = false
theorem tyOk (P : Program) (eqs : List Nat) (h : EqsOk P eqs) : TyOk P (tyOf P eqs) := by
  have inv : ∀ t d, tyOf P eqs t = some d → ∃ i v, P.info? t = some i ∧ P.underlying t = some d.desc ∧ i.zero = some v ∧ v.cells.toList.length = i.size ∧ v.cells.toList.all closed1 = true ∧ d = ⟨d.desc, i.size, i.bytes, v.cells.toList, eqs.contains t⟩ := by
    intro t d hd
    simp only [tyOf, Option.bind_eq_some_iff, Option.ite_none_right_eq_some, Option.some.injEq] at hd
    obtain ⟨i, hi, u, hu, v, hv, ⟨h1, h2⟩, rfl⟩ := hd
    exact ⟨i, v, hi, hu, hv, h1, h2, rfl⟩
  refine ⟨fun t d hd => ?_, fun t d hd => ?_, fun t d hd he => ?_⟩
  · obtain ⟨i, v, _, hu, _⟩ := inv t d hd; exact hu
  · obtain ⟨i, v, hi, hu, hv, h1, h2, hd'⟩ := inv t d hd
    have e1 : d.size = i.size := by rw [hd']
    have e2 : d.bytes = i.bytes := by rw [hd']
    have e3 : d.zero = v.cells.toList := by rw [hd']
    exact ⟨i, v, hi, e1.symm, e2.symm, hv, e3.symm, by rw [e3, e1]; exact h1, fun z hz => List.all_eq_true.1 h2 z (by rw [← e3]; exact hz)⟩
  · obtain ⟨i, v, hi, hu, hv, h1, h2, hd'⟩ := inv t d hd
    have hm : t ∈ eqs := by rw [hd'] at he; simpa using he
    exact h t hm d hd
end Go.Sx
end
section
/-
  Sx, part P: regions whose order is drawn. Own words; no condition.
-/
namespace Go.Sx
open Go
variable {P : Program} {ty : TypeId → Option TD} {N : Nat}

/-! ### Slots that are looked up alike -/
theorem ev_congr {γ : Bool} {s s' : List (Nat × Ent)} {x : Operand} (h : ∀ t, x = .tmp t → lk s t = lk s' t) : ev γ s x = ev γ s' x := by
  cases x with
  | tmp t => simp only [ev, h t rfl]
  | _ => rfl
theorem all2_map_congr {α β : Type} {f g : α → Option β} : ∀ {l : List α}, (∀ x ∈ l, f x = g x) → all2 (l.map f) = all2 (l.map g)
  | [], _ => rfl
  | x :: l, h => by simp only [List.map_cons, all2, h x (by simp), all2_map_congr (l := l) fun y hy => h y (by simp [hy])]
theorem evs_congr {γ : Bool} {s s' : List (Nat × Ent)} {xs : List Operand} (h : ∀ x ∈ xs, ∀ t, x = .tmp t → lk s t = lk s' t) : evs γ s xs = evs γ s' xs :=
  all2_map_congr fun x hx => ev_congr (h x hx)
theorem evps_congr {γ : Bool} {s s' : List (Nat × Ent)} {xs : List (Nat × Operand)} (h : ∀ p ∈ xs, ∀ t, p.2 = .tmp t → lk s t = lk s' t) : evps γ s xs = evps γ s' xs :=
  all2_map_congr fun x hx => by rw [ev_congr (h x hx)]
theorem evo_congr {γ : Bool} {s s' : List (Nat × Ent)} {x : Option Operand} (h : ∀ y, x = some y → ∀ t, y = .tmp t → lk s t = lk s' t) : evo γ s x = evo γ s' x := by
  cases x with
  | none => rfl
  | some y => simp only [evo, ev_congr (h y rfl)]
/-- What an operation looks at is alike. -/
def Alike (s s' : List (Nat × Ent)) (o : Op) : Prop := ∀ t, .tmp t ∈ o.operands → lk s t = lk s' t
theorem semP_congr {γ : Bool} {s s' : List (Nat × Ent)} {o : Op} (h : Alike s s' o) (hp : Heap) : semP ty γ o s hp = semP ty γ o s' hp := by
  have e1 : ∀ (γ : Bool) x, x ∈ o.operands → ev γ s x = ev γ s' x := fun γ x hx => ev_congr fun t ht => h t (ht ▸ hx)
  have e2 : ∀ (γ : Bool) (xs : List Operand), (∀ x ∈ xs, x ∈ o.operands) → evs γ s xs = evs γ s' xs := fun γ xs hx => evs_congr fun x hm t ht => h t (ht ▸ hx x hm)
  have e3 : ∀ (γ : Bool) (xs : List (Nat × Operand)), (∀ p ∈ xs, p.2 ∈ o.operands) → evps γ s xs = evps γ s' xs := fun γ xs hx => evps_congr fun x hm t ht => h t (ht ▸ hx x hm)
  have e4 : ∀ (γ : Bool) (x : Option Operand), (∀ y, x = some y → y ∈ o.operands) → evo γ s x = evo γ s' x := fun γ x hx => evo_congr fun y hy t ht => h t (ht ▸ hx y hy)
  cases o with
  | build t ps => simp only [semP]; rw [e3 γ ps.toList fun p hp => by simp only [Op.operands]; exact List.mem_toArray.2 (List.mem_map.2 ⟨p, hp, rfl⟩)]
  | makeFunc fn first captured =>
    simp only [semP]
    rw [e2 γ first.toList fun x hx => by simp only [Op.operands, Array.mem_append]; exact .inl (by simpa using hx), e2 γ captured.toList fun x hx => by simp only [Op.operands, Array.mem_append]; exact .inr (by simpa using hx)]
  | slice t x lo hi mx =>
    simp only [semP]
    rw [e1 γ x (by simp [Op.operands]), e4 γ lo fun y hy => by subst hy; simp [Op.operands], e4 γ hi fun y hy => by subst hy; simp [Op.operands], e4 γ mx fun y hy => by subst hy; simp [Op.operands]]
  | call c =>
    obtain ⟨cl, args, ats⟩ := c
    cases cl with
    | builtin b => simp only [semP]; rw [e2 γ args.toList fun x hx => by simp [Op.operands, Call.operands]; simpa using hx]
    | _ => rfl
  | pick c a b => simp only [semP]; rw [e1 γ c (by simp [Op.operands])]; congr 1; funext v; cases v <;> simp only; rw [e1 _ a (by simp [Op.operands]), e1 _ b (by simp [Op.operands])]
  | binOp op t x y p => simp only [semP]; rw [e1 γ x (by simp [Op.operands]), e1 γ y (by simp [Op.operands])]
  | indexAddr t x y => simp only [semP]; rw [e1 γ x (by simp [Op.operands]), e1 γ y (by simp [Op.operands])]
  | index t x y => simp only [semP]; rw [e1 γ x (by simp [Op.operands]), e1 γ y (by simp [Op.operands])]
  | move x => simp only [semP]; rw [e1 γ x (by simp [Op.operands])]
  | assign x => simp only [semP]; rw [e1 γ x (by simp [Op.operands])]
  | load t x => simp only [semP]; rw [e1 γ x (by simp [Op.operands])]
  | nilCheck x => simp only [semP]; rw [e1 γ x (by simp [Op.operands])]
  | unOp op t x => simp only [semP]; rw [e1 γ x (by simp [Op.operands])]
  | convert s t x => simp only [semP]; rw [e1 γ x (by simp [Op.operands])]
  | sliceToArrayPointer t x => simp only [semP]; rw [e1 γ x (by simp [Op.operands])]
  | makeInterface t x => simp only [semP]; rw [e1 γ x (by simp [Op.operands])]
  | fieldAddr t x f => simp only [semP]; rw [e1 γ x (by simp [Op.operands])]
  | field t x f => simp only [semP]; rw [e1 γ x (by simp [Op.operands])]
  | extract x f => simp only [semP]; rw [e1 γ x (by simp [Op.operands])]
  | _ => rfl
theorem semA_congr {s s' : List (Nat × Ent)} {o : Op} (h : Alike s s' o) (hp : Heap) : semA ty o s hp = semA ty o s' hp := by
  have e1 : ∀ (γ : Bool) x, x ∈ o.operands → ev γ s x = ev γ s' x := fun γ x hx => ev_congr fun t ht => h t (ht ▸ hx)
  have e2 : ∀ (γ : Bool) (xs : List Operand), (∀ x ∈ xs, x ∈ o.operands) → evs γ s xs = evs γ s' xs := fun γ xs hx => evs_congr fun x hm t ht => h t (ht ▸ hx x hm)
  have e3 : ∀ (γ : Bool) (xs : List (Nat × Operand)), (∀ p ∈ xs, p.2 ∈ o.operands) → evps γ s xs = evps γ s' xs := fun γ xs hx => evps_congr fun x hm t ht => h t (ht ▸ hx x hm)
  cases o with
  | box t x => simp only [semA]; rw [e1 true x (by simp [Op.operands])]
  | buildSlice t n ps => simp only [semA]; rw [e3 true ps.toList fun p hp => by simp only [Op.operands]; exact List.mem_toArray.2 (List.mem_map.2 ⟨p, hp, rfl⟩)]
  | makeSlice t l c => simp only [semA]; rw [e1 true l (by simp [Op.operands]), e1 true c (by simp [Op.operands])]
  | convert s t x => simp only [semA]; rw [e1 true x (by simp [Op.operands])]
  | store t x y => simp only [semA]; rw [e1 true x (by simp [Op.operands]), e1 true y (by simp [Op.operands])]
  | call c =>
    obtain ⟨cl, args, ats⟩ := c
    have ha : evs true s args.toList = evs true s' args.toList := e2 true args.toList fun x hx => by simp only [Op.operands, Call.operands]; exact Array.mem_append.2 (.inr (by simpa using hx))
    simp only [semA]; rw [ha]
  | _ => rfl
theorem callee_congr {s s' : List (Nat × Ent)} {o : Op} (h : Alike s s' o) : callee s o = callee s' o := by
  have e1 : ∀ (γ : Bool) x, x ∈ o.operands → ev γ s x = ev γ s' x := fun γ x hx => ev_congr fun t ht => h t (ht ▸ hx)
  have e2 : ∀ (γ : Bool) (xs : List Operand), (∀ x ∈ xs, x ∈ o.operands) → evs γ s xs = evs γ s' xs := fun γ xs hx => evs_congr fun x hm t ht => h t (ht ▸ hx x hm)
  cases o with
  | call c =>
    obtain ⟨cl, args, ats⟩ := c
    cases cl with
    | value f => simp only [callee]; rw [e1 true f (by simp [Op.operands, Call.operands]), e2 true args.toList fun x hx => by simp only [Op.operands, Call.operands]; exact Array.mem_append.2 (.inr (by simpa using hx))]
    | _ => rfl
  | _ => rfl

noncomputable section
/-- What a quiet operation leaves in its slot. -/
def softV (ty : TypeId → Option TD) (N : Nat) (all : List Oper) (o : Oper) (tm : List (Nat × Ent)) (h : Heap) : Option Ent :=
  match dstOk N o with
  | false => none
  | true => match semA ty o.op tm h with
    | some _ => none
    | none => match o.guard with
      | none => (semP ty true o.op tm h).map .v
      | some g => (guardC all tm g).bind fun γ => match semP ty γ o.op tm h with
        | some v => some (.g γ v)
        | none => if γ = true then none else some (.v undef)
end
theorem callee_isP {tm : List (Nat × Ent)} {o : Op} (h : isP o = true) : callee tm o = none := by
  cases o with
  | call c =>
    obtain ⟨cl, args, ats⟩ := c
    cases cl with
    | builtin b => rfl
    | _ => simp [isP] at h
  | _ => rfl
theorem step_soft {all : List Oper} {o : Oper} {tm : List (Nat × Ent)} {h : Heap} {e : Ent} (hp : isP o.op = true) (he : softV ty N all o tm h = some e) {K : St → Prop} (hk : K ⟨put o.dst e tm, h⟩) : stepC P ty N all o K ⟨tm, h⟩ := by
  unfold softV at he
  unfold stepC
  cases hd : dstOk N o with
  | false => simp [hd] at he
  | true =>
    simp only [hd] at he ⊢
    split at he
    · simp at he
    · rename_i hA
      cases hg : o.guard with
      | none =>
        simp only [hg, Option.map_eq_some_iff] at he ⊢
        obtain ⟨v, hv, rfl⟩ := he
        unfold exec
        simp only [callee_isP hp, hA, hv]
        exact hk
      | some g =>
        simp only [hg, Option.bind_eq_some_iff] at he ⊢
        obtain ⟨γ, hγ, he⟩ := he
        simp only [hγ]
        unfold guarded
        simp only [hp]
        split at he
        · rename_i v hv
          simp at he; subst he
          simp only [hv]; exact hk
        · rename_i hv
          simp only [hv]
          split at he
          · simp at he
          · rename_i hn
            simp at he; subst he
            rw [if_neg hn]; exact hk
theorem guardC_congr {all : List Oper} {s s' : List (Nat × Ent)} {g : Nat × Bool} (h : ∀ t, ((all[g.1]?).bind fun o => o.dst) = some t → lk s t = lk s' t) : guardC all s g = guardC all s' g := by
  unfold guardC
  cases hd : ((all[g.1]?).bind fun o => o.dst) with
  | none => rfl
  | some t => simp only [Option.bind_some, h t hd]
/-- What an operation and its guard look at is alike. -/
def Alike' (all : List Oper) (s s' : List (Nat × Ent)) (o : Oper) : Prop := Alike s s' o.op ∧ ∀ g, o.guard = some g → ∀ t, ((all[g.1]?).bind fun o => o.dst) = some t → lk s t = lk s' t
theorem softV_congr {all : List Oper} {s s' : List (Nat × Ent)} {o : Oper} (h : Alike' all s s' o) (hp : Heap) : softV ty N all o s hp = softV ty N all o s' hp := by
  unfold softV
  rw [semA_congr h.1 hp]
  have e : ∀ γ, semP ty γ o.op s hp = semP ty γ o.op s' hp := fun γ => semP_congr h.1 hp
  cases hg : o.guard with
  | none => simp only [e]
  | some g => simp only [e, guardC_congr (h.2 g hg)]
theorem exec_congr {s s' : List (Nat × Ent)} {o : Oper} (h : Alike s s' o.op) {hp : Heap} {K : St → Prop} (q : exec P ty o K ⟨s, hp⟩) :
    exec P ty o (fun z => ∃ u h', z = ⟨put o.dst u s', h'⟩ ∧ K ⟨put o.dst u s, h'⟩) ⟨s', hp⟩ := by
  unfold exec at *
  simp only at *
  rw [← callee_congr h, ← semA_congr h, ← semP_congr h]
  split at q
  · rename_i f args hc
    exact CallK.of q fun v h' hk => ⟨_, _, rfl, hk⟩
  · split at q
    · exact ⟨_, _, rfl, q⟩
    · split at q
      · exact ⟨_, _, rfl, q⟩
      · exact q.elim
theorem step_congr {all : List Oper} {s s' : List (Nat × Ent)} {o : Oper} (h : Alike' all s s' o) {hp : Heap} {K : St → Prop} (q : stepC P ty N all o K ⟨s, hp⟩) :
    stepC P ty N all o (fun z => ∃ u h', z = ⟨put o.dst u s', h'⟩ ∧ K ⟨put o.dst u s, h'⟩) ⟨s', hp⟩ := by
  unfold stepC at *
  split at q
  · rename_i hd
    simp only
    cases hg : o.guard with
    | none => simp only [hg] at q ⊢; exact exec_congr h.1 q
    | some g =>
      simp only [hg] at q ⊢
      rw [← guardC_congr (h.2 g hg)]
      split at q
      · rename_i γ hγ
        unfold guarded at *
        simp only at *
        rw [← semP_congr h.1]
        split at q
        · split at q
          · exact ⟨_, _, rfl, q⟩
          · rename_i hv
            split at q
            · exact q.elim
            · rename_i hn; rw [if_neg hn]; exact ⟨_, _, rfl, q⟩
        · split at q
          · exact exec_congr h.1 q
          · exact ⟨_, _, rfl, q⟩
      · exact q.elim
  · exact q.elim
theorem exec_mono {o : Oper} {s : St} {K K' : St → Prop} (hk : ∀ s, K s → K' s) (q : exec P ty o K s) : exec P ty o K' s := by
  unfold exec at *
  split at q
  · exact CallK.of q fun v h' h => hk _ h
  · split at q
    · exact hk _ q
    · split at q
      · exact hk _ q
      · exact q.elim
theorem step_mono {all : List Oper} {o : Oper} {s : St} {K K' : St → Prop} (hk : ∀ s, K s → K' s) (q : stepC P ty N all o K s) : stepC P ty N all o K' s := by
  unfold stepC at *
  split at q
  · split at q
    · exact exec_mono hk q
    · split at q
      · unfold guarded at *
        split at q
        · split at q
          · exact hk _ q
          · split at q
            · exact q.elim
            · rename_i hn; rw [if_neg hn]; exact hk _ q
        · split at q
          · exact exec_mono hk q
          · exact hk _ q
      · exact q.elim
  · exact q.elim
theorem lk_put (d : Option Tmp) (e : Ent) (tm : List (Nat × Ent)) (t : Nat) : lk (put d e tm) t = if d = some t then some e else lk tm t := by
  cases d with
  | none => simp [put]
  | some u => simp [put, lk]

/-! ### Every order -/
section
variable (P : Program) (ty : TypeId → Option TD) (N : Nat) (ops : Array Oper)
/-- Whatever order is drawn: S holds behind each operation, K in the end. -/
def DW (S : Heap → Prop) (K : St → Prop) : Nat → Array Bool → St → Prop
  | 0, listed, s => Region.ready .any ops listed = [] ∧ K s
  | fuel + 1, listed, s => (Region.ready .any ops listed = [] → K s) ∧
    ∀ i ∈ Region.ready .any ops listed, ∀ o, ops[i]? = some o → stepC P ty N ops.toList o (fun s' => S s'.h ∧ DW S K fuel (listed.setIfInBounds i true) s') s
end
variable {ops : Array Oper}
theorem DW.mono {S S' : Heap → Prop} (hS : ∀ h, S h → S' h) {K : St → Prop} : ∀ {fuel : Nat} {listed : Array Bool} {s : St}, DW P ty N ops S K fuel listed s → DW P ty N ops S' K fuel listed s
  | 0, _, _, h => h
  | _ + 1, _, _, ⟨h1, h2⟩ => ⟨h1, fun i hi o ho => step_mono (fun _ ⟨a, b⟩ => ⟨hS _ a, DW.mono hS b⟩) (h2 i hi o ho)⟩
/-- K looks at slots by their numbers alone. -/
def ByNumber (K : St → Prop) : Prop := ∀ tm tm' h, (∀ t, lk tm t = lk tm' t) → K ⟨tm, h⟩ → K ⟨tm', h⟩
theorem DW.congr {S : Heap → Prop} {K : St → Prop} (hK : ByNumber K) : ∀ {fuel : Nat} {listed : Array Bool} {tm tm' : List (Nat × Ent)} {h : Heap}, (∀ t, lk tm t = lk tm' t) → DW P ty N ops S K fuel listed ⟨tm, h⟩ → DW P ty N ops S K fuel listed ⟨tm', h⟩
  | 0, _, _, _, _, e, h => ⟨h.1, hK _ _ _ e h.2⟩
  | _ + 1, _, _, _, _, e, ⟨h1, h2⟩ => ⟨fun h0 => hK _ _ _ e (h1 h0), fun i hi o ho => by
      refine step_mono ?_ (step_congr (s' := _) ⟨fun t _ => e t, fun _ _ t _ => e t⟩ (h2 i hi o ho))
      rintro z ⟨u, h', rfl, a, b⟩
      exact ⟨a, DW.congr hK (fun t => by rw [lk_put, lk_put, e t]) b⟩⟩
theorem dw_sound (T : TyOk P ty) {S : Heap → Prop} {K : St → Prop} {Q : Exit → Act → World → Prop} : ∀ {fuel : Nat} {listed : Array Bool} {s : St} {ι : List Place} {a : Act} {w : World}, Like ι s N a w → DW P ty N ops S K fuel listed s →
    (∀ a' w', Goes ι s.h w N K a' w' → Q .normal a' w') → wpAny P .any ops Q fuel listed a w
  | 0, _, s, ι, a, w, L, h, hQ => ⟨h.1, hQ _ _ ⟨ι, s, h.2, L, .refl _ _ _⟩⟩
  | fuel + 1, listed, s, ι, a, w, L, h, hQ => by
    refine ⟨fun h0 => hQ _ _ ⟨ι, s, h.1 h0, L, .refl _ _ _⟩, fun i hi => ?_⟩
    obtain ⟨_, o, ho, _⟩ := mem_ready.1 hi
    have hs := step_sound T L (all := ops.toList) rfl (h.2 i hi o ho) Q
    have next : ∀ a' w', Goes ι s.h w N (fun s' => S s'.h ∧ DW P ty N ops S K fuel (listed.setIfInBounds i true) s') a' w' → wpAny P .any ops Q fuel (listed.setIfInBounds i true) a' w' := by
      rintro a' w' ⟨κ, s', ⟨_, hk⟩, L', g⟩
      exact dw_sound T L' hk fun a'' w'' q => hQ a'' w'' (Goes.trans g q)
    unfold wpOp
    simp only [ho]
    split
    · rename_i hw; rw [if_pos hw] at hs; exact .inl (Oper.wp_mono next hs)
    · rename_i hw; rw [if_neg hw] at hs; exact next _ _ hs
theorem looks_op {o : Oper} {t : Nat} (h : .tmp t ∈ o.op.operands) : t ∈ o.looksAt ops :=
  List.mem_append_left _ (List.mem_filterMap.2 ⟨.tmp t, by simpa using h, rfl⟩)
theorem looks_guard {o : Oper} {g : Nat × Bool} (hg : o.guard = some g) {t : Nat} (h : ((ops.toList[g.1]?).bind fun o => o.dst) = some t) : t ∈ o.looksAt ops := by
  obtain ⟨j, b⟩ := g
  rw [Array.getElem?_toList] at h
  simp [Oper.looksAt, hg, h]
theorem alike_put {o : Oper} {d : Option Tmp} {e : Ent} {tm : List (Nat × Ent)} (h : ∀ t, d = some t → t ∉ o.looksAt ops) : Alike' ops.toList (put d e tm) tm o := by
  refine ⟨fun t ht => ?_, fun g hg t ht => ?_⟩
  · rw [lk_put, if_neg fun hd => h t hd (looks_op ht)]
  · rw [lk_put, if_neg fun hd => h t hd (looks_guard hg ht)]
theorem Alike'.symm {all : List Oper} {s s' : List (Nat × Ent)} {o : Oper} (h : Alike' all s s' o) : Alike' all s' s o := ⟨fun t ht => (h.1 t ht).symm, fun g hg t ht => (h.2 g hg t ht).symm⟩
/-- A quiet operation may come first. -/
theorem dw_first {S : Heap → Prop} {K : St → Prop} (hK : ByNumber K) {i : Nat} {oi : Oper} (hi : ops[i]? = some oi) (hq : isP oi.op = true) : ∀ (fuel : Nat) (listed : Array Bool) (tm : List (Nat × Ent)) (h : Heap) (e : Ent),
    (∀ j oj, ops[j]? = some oj → j ≠ i → listed.getD j true = false → (∀ e ∈ oj.after, Region.binds .any e = true → e.on ≠ i) → oi.apart ops oj = true) →
    i ∈ Region.ready .any ops listed → (∀ h', S h' → softV ty N ops.toList oi tm h' = some e) → S h →
    DW P ty N ops S K fuel (listed.setIfInBounds i true) ⟨put oi.dst e tm, h⟩ → DW P ty N ops S K (fuel + 1) listed ⟨tm, h⟩ := by
  intro fuel
  induction fuel with
  | zero =>
    intro listed tm h e _ hr hs hS H
    refine ⟨fun h0 => (by rw [h0] at hr; cases hr), fun j hj o ho => ?_⟩
    by_cases hji : j = i
    · subst hji
      rw [hi] at ho; cases ho
      exact step_soft hq (hs h hS) ⟨hS, H⟩
    · have := ready_mono hj hji
      rw [H.1] at this
      cases this
  | succ fuel ih =>
    intro listed tm h e hfree hr hs hS H
    refine ⟨fun h0 => (by rw [h0] at hr; cases hr), fun j hj oj hoj => ?_⟩
    by_cases hji : j = i
    · subst hji
      rw [hi] at hoj; cases hoj
      exact step_soft hq (hs h hS) ⟨hS, H⟩
    · have h1 := H.2 j (ready_mono hj hji) oj hoj
      obtain ⟨hjun, oj', hoj', hall⟩ := mem_ready.1 hj
      rw [hoj] at hoj'; cases hoj'
      have hnot : ∀ e ∈ oj.after, Region.binds .any e = true → e.on ≠ i := fun e he hb heq => by
        have h1 := hall e he hb
        have h0 := (mem_ready.1 hr).1
        rw [heq] at h1
        rcases Nat.lt_or_ge i listed.size with h' | h'
        · simp [h'] at h0 h1; rw [h0] at h1; cases h1
        · simp [Array.getElem?_eq_none h'] at h1
      obtain ⟨a1, a2, a3⟩ := Oper.apart_spec (hfree j oj hoj hji hjun hnot)
      have hfree' : ∀ k ok, ops[k]? = some ok → k ≠ i → (listed.setIfInBounds j true).getD k true = false →
          (∀ e ∈ ok.after, Region.binds .any e = true → e.on ≠ i) → oi.apart ops ok = true := fun k ok hk hki hun hno => by
        refine hfree k ok hk hki ?_ hno
        by_cases hjk : j = k
        · subst hjk; exact hjun
        · rw [getD_set_ne true hjk] at hun; exact hun
      refine step_mono ?_ (step_congr (alike_put a1) h1)
      rintro z ⟨u, h', rfl, hS', hd⟩
      refine ⟨hS', ih _ _ _ e hfree' (ready_mono hr (Ne.symm hji)) (fun h'' hh => ?_) hS' ?_⟩
      · rw [softV_congr (alike_put (ops := ops) a3)]; exact hs h'' hh
      · rw [Array.setIfInBounds_comm _ _ hji]
        refine DW.congr hK (fun t => ?_) hd
        simp only [lk_put]
        by_cases h1 : oj.dst = some t
        · rw [if_pos h1, if_neg fun h2 => a2 t h2 h1, if_pos h1]
        · rw [if_neg h1, if_neg h1]

/-! ### A plan: which one is taken next -/
/-- stop: nothing more. soft: a quiet one first. alt: whichever of those comes up. -/
inductive Plan where
  | stop
  | soft (i : Nat) (r : Plan)
  | alt (i : Nat) (r : Plan) (others : Plan)
def Plan.heads : Plan → List Nat
  | .alt i _ o => i :: o.heads
  | _ => []
def Plan.ok (ops : Array Oper) : Plan → Bool → Nat → Array Bool → Bool
  | .stop, true, _, listed => (Region.ready .any ops listed).isEmpty
  | .stop, false, _, _ => true
  | .soft _ _, true, 0, _ => false
  | .soft i r, true, fuel + 1, listed => (Region.ready .any ops listed).contains i && Region.free .any ops listed i && (match ops[i]? with | some o => isP o.op | none => false) && r.ok ops true fuel (listed.setIfInBounds i true)
  | .soft _ _, false, _, _ => false
  | .alt _ _ _, _, 0, _ => false
  | .alt i r o, b, fuel + 1, listed => (!b || ((Region.ready .any ops listed).contains i && (Region.ready .any ops listed).all fun k => (i :: o.heads).contains k)) && r.ok ops true fuel (listed.setIfInBounds i true) && o.ok ops false (fuel + 1) listed
/-- Operations whose answer asks nothing of the heap. -/
def still (o : Op) : Bool :=
  match o with
  | .move _ | .assign _ | .pick .. | .build .. | .binOp .. | .unOp .. | .makeInterface .. | .makeFunc .. | .fieldAddr .. | .field .. | .indexAddr .. | .index .. | .extract .. => true
  | .call c => match c.callee with
    | .builtin .len => true
    | .builtin .min => true
    | .builtin .max => true
    | _ => false
  | _ => false
noncomputable section
/-- The walk by a plan. -/
def pops (P : Program) (ty : TypeId → Option TD) (N : Nat) (all : List Oper) (K : St → Prop) : Plan → Bool → (Heap → Prop) → St → Prop
  | .stop, true, _, s => K s
  | .stop, false, _, _ => True
  | .soft i r, _, S, s => match all[i]? with
    | some o => match softV ty N all o s.tm s.h with
      | some e => match still o.op with
        | true => pops P ty N all K r true S ⟨put o.dst e s.tm, s.h⟩
        | false => pops P ty N all K r true (fun h => S h ∧ softV ty N all o s.tm h = some e) ⟨put o.dst e s.tm, s.h⟩
      | none => False
    | none => False
  | .alt i r o, _, S, s => (match all[i]? with
    | some op => stepC P ty N all op (fun s' => S s'.h ∧ pops P ty N all K r true S s') s
    | none => False) ∧ pops P ty N all K o false S s
end
theorem semA_still {o : Op} (h : still o = true) (tm : List (Nat × Ent)) (hp : Heap) : semA ty o tm hp = none := by
  cases o with
  | call c =>
    obtain ⟨cl, args, ats⟩ := c
    cases cl with
    | builtin b => cases b <;> first | (simp [still] at h; done) | rfl
    | _ => simp [still] at h
  | _ => first | (simp [still] at h; done) | rfl
theorem semP_still {γ : Bool} {o : Op} (h : still o = true) (tm : List (Nat × Ent)) (hp hp' : Heap) : semP ty γ o tm hp = semP ty γ o tm hp' := by
  cases o with
  | call c =>
    obtain ⟨cl, args, ats⟩ := c
    cases cl with
    | builtin b => cases b <;> first | (simp [still] at h; done) | rfl
    | _ => simp [still] at h
  | _ => first | (simp [still] at h; done) | rfl
theorem softV_still {all : List Oper} {o : Oper} (h : still o.op = true) (tm : List (Nat × Ent)) (hp hp' : Heap) : softV ty N all o tm hp = softV ty N all o tm hp' := by
  have e1 : semA ty o.op tm hp = semA ty o.op tm hp' := by rw [semA_still h, semA_still h]
  have e : ∀ γ, semP ty γ o.op tm hp = semP ty γ o.op tm hp' := fun γ => semP_still h tm hp hp'
  unfold softV
  rw [e1]
  cases hg : o.guard with
  | none => simp only [e]
  | some g => simp only [e]
theorem pops_sound {K : St → Prop} (hK : ByNumber K) (hs : Region.noSelect ops = true) : ∀ (p : Plan) (b : Bool) (fuel : Nat) (listed : Array Bool) (S : Heap → Prop) (s : St), p.ok ops b fuel listed = true → S s.h → pops P ty N ops.toList K p b S s →
    (b = true → DW P ty N ops S K fuel listed s) ∧ ∀ i ∈ p.heads, ∀ o, ops[i]? = some o → ∃ f, fuel = f + 1 ∧ stepC P ty N ops.toList o (fun s' => S s'.h ∧ DW P ty N ops S K f (listed.setIfInBounds i true) s') s
  | .stop, b, fuel, listed, S, s, hok, hS, h => by
    refine ⟨?_, fun i hi => by cases hi⟩
    rintro rfl
    simp only [Plan.ok, List.isEmpty_iff] at hok
    simp only [pops] at h
    cases fuel with
    | zero => exact ⟨hok, h⟩
    | succ f => exact ⟨fun _ => h, fun i hi => by rw [hok] at hi; cases hi⟩
  | .soft i r, b, fuel, listed, S, s, hok, hS, h => by
    refine ⟨?_, fun i hi => by cases hi⟩
    rintro rfl
    cases fuel with
    | zero => simp [Plan.ok] at hok
    | succ f =>
      simp only [Plan.ok, Bool.and_eq_true] at hok
      obtain ⟨⟨⟨h1, h2⟩, h3⟩, h4⟩ := hok
      simp only [pops] at h
      split at h
      · rename_i o ho
        have ho' : ops[i]? = some o := by rw [← Array.getElem?_toList]; exact ho
        rw [ho'] at h3
        simp only at h3
        split at h
        · rename_i e he
          split at h
          · rename_i hst
            have := (pops_sound hK hs r true f _ S ⟨put o.dst e s.tm, s.h⟩ h4 hS h).1 rfl
            exact dw_first hK ho' h3 f listed s.tm s.h e (Region.free_spec ho' h2) (by simpa using h1) (fun h' _ => by rw [softV_still hst _ h' s.h]; exact he) hS this
          · rename_i hst
            have := (pops_sound hK hs r true f _ _ ⟨put o.dst e s.tm, s.h⟩ h4 ⟨hS, he⟩ h).1 rfl
            exact (dw_first (S := fun h => S h ∧ softV ty N ops.toList o s.tm h = some e) hK ho' h3 f listed s.tm s.h e (Region.free_spec ho' h2) (by simpa using h1) (fun h' hh => hh.2) ⟨hS, he⟩ this).mono fun _ h => h.1
        · exact h.elim
      · exact h.elim
  | .alt i r o, b, fuel, listed, S, s, hok, hS, h => by
    cases fuel with
    | zero => cases b <;> simp [Plan.ok] at hok
    | succ f =>
      simp only [Plan.ok, Bool.and_eq_true] at hok
      obtain ⟨⟨h1, h2⟩, h3⟩ := hok
      simp only [pops] at h
      obtain ⟨ha, hb⟩ := h
      have key : ∀ k ∈ (Plan.alt i r o).heads, ∀ op, ops[k]? = some op → ∃ f', f + 1 = f' + 1 ∧ stepC P ty N ops.toList op (fun s' => S s'.h ∧ DW P ty N ops S K f' (listed.setIfInBounds k true) s') s := by
        intro k hk op hop
        simp only [Plan.heads, List.mem_cons] at hk
        rcases hk with rfl | hk
        · refine ⟨f, rfl, ?_⟩
          rw [Array.getElem?_toList, hop] at ha
          simp only at ha
          exact step_mono (fun s' ⟨a, b⟩ => ⟨a, (pops_sound hK hs r true f _ S s' h2 a b).1 rfl⟩) ha
        · exact (pops_sound hK hs o false (f + 1) listed S s h3 hS hb).2 k hk op hop
      refine ⟨?_, key⟩
      rintro rfl
      simp only [Bool.not_true, Bool.false_or, Bool.and_eq_true, List.all_eq_true] at h1
      refine ⟨fun h0 => ?_, fun k hk op hop => ?_⟩
      · rw [h0] at h1; simp at h1
      · obtain ⟨f', hf, q⟩ := key k (by simpa [Plan.heads] using h1.2 k hk) op hop
        cases hf
        exact q

theorem pops_mono {all : List Oper} {K K' : St → Prop} (hk : ∀ s, K s → K' s) : ∀ (p : Plan) {b : Bool} {S : Heap → Prop} {s : St}, pops P ty N all K p b S s → pops P ty N all K' p b S s
  | .stop, true, _, _, h => hk _ h
  | .stop, false, _, _, _ => trivial
  | .soft i r, b, S, s, h => by
    simp only [pops] at *
    split at h
    · split at h
      · split at h
        · exact pops_mono hk r h
        · exact pops_mono hk r h
      · exact h
    · exact h
  | .alt i r o, b, S, s, h => by
    simp only [pops] at *
    refine ⟨?_, pops_mono hk o h.2⟩
    have h1 := h.1
    split at h1
    · exact step_mono (fun _ ⟨a, b⟩ => ⟨a, pops_mono hk r b⟩) h1
    · exact h1
theorem Like.byNumber {ι : List Place} {tm tm' : List (Nat × Ent)} {h : Heap} {a : Act} {w : World} (e : ∀ t, lk tm t = lk tm' t) (L : Like ι ⟨tm', h⟩ N a w) : Like ι ⟨tm, h⟩ N a w :=
  ⟨L.1, L.2.1, L.2.2.1, fun t x hx => L.2.2.2 t x ((e t).symm.trans hx)⟩
theorem cw_drawn (T : TyOk P ty) (hm : P.follows .mixedOrders = true) {id : Nat} {ops : Array Oper} {s : St} {Q : Exit → St → Prop} (p : Plan) (hs : Region.noSelect ops = true) (hp : p.ok ops true ops.size (Array.replicate ops.size false) = true)
    (h : pops P ty N ops.toList (Q .normal) p true (fun _ => True) s) : CW P N (.region id ops true) s Q := by
  intro ι a w L
  refine wp_region_any hm ?_
  have hK : ByNumber fun s' => ∃ tm, (∀ t, lk tm t = lk s'.tm t) ∧ Q .normal ⟨tm, s'.h⟩ := fun tm tm' h he ⟨tm0, h0, q⟩ => ⟨tm0, fun t => (h0 t).trans (he t), q⟩
  have hd := (pops_sound (P := P) (ty := ty) (N := N) (ops := ops) hK hs p true ops.size _ (fun _ => True) s hp trivial (pops_mono (fun s' q => ⟨s'.tm, fun _ => rfl, q⟩) p h)).1 rfl
  refine dw_sound T (w := { w with drawn := w.drawn + 1 }) (a := a) ⟨L.1.drew _, L.2⟩ hd ?_
  rintro a' w' ⟨κ, s', ⟨tm, h0, q⟩, L', g⟩
  exact ⟨κ, ⟨tm, s'.h⟩, q, L'.byNumber h0, (Grow.drew _).trans g⟩
end Go.Sx
end
