/-
  Walks by Sx; no condition beyond those that stand in each statement.
-/
import Derived.Test.YtfjdbhgnnpmceaaSxb6
section
/-
  Sx, part Y: a call of plain arguments, once run, is so over any heap. Own words; no condition.
-/
namespace Go.Sx
open Go Go.RowKit
variable {P : Program} {ty : TypeId → Option TD} {N : Nat}
theorem BlkR.below {ι : List Place} {w w' : World} {p : Place} {b : Blk} (h : Below w.heap.size w w') (r : BlkR ι w p b) : BlkR ι w' p b := by
  cases b with
  | cells cs o u =>
    obtain ⟨h1, h2, h3⟩ := r
    refine ⟨fun k x hx => ?_, Nat.lt_of_lt_of_le h2 h.size, fun ho => ?_⟩
    · obtain ⟨y, hy, hr⟩ := h1 k x hx
      exact ⟨y, by rw [h.cell (p := ⟨p.block, p.off + k, none⟩) h2]; exact hy, hr⟩
    · obtain ⟨a1, a2, a3⟩ := h3 ho
      refine ⟨a1, a2, fun k hk => ?_⟩
      rw [h.cell (p := ⟨p.block, p.off + k, none⟩) h2, h.frozen (p := ⟨p.block, p.off + k, none⟩) h2]
      exact a3 k hk
  | void u => exact r
  | map es c =>
    obtain ⟨es', h1, h2⟩ := r
    have hlt := (Array.getElem?_eq_some_iff.1 h1).1
    exact ⟨es', by rw [h.block p.block hlt]; exact h1, h2⟩
theorem RelH.below {ι : List Place} {H : Heap} {w w' : World} (h : Below w.heap.size w w') (r : RelH ι H w) : RelH ι H w' :=
  ⟨r.len, fun i b hb => let ⟨p, hp, hr⟩ := r.blk i b hb; ⟨p, hp, hr.below h⟩, r.apart⟩
theorem Below.grow {ι : List Place} {H : Heap} {w w' : World} (h : Below w.heap.size w w') : Grow ι H w ι H w' :=
  ⟨List.prefix_refl _, h.os, h.tape, h.output, h.size, fun b hb _ => h.block b hb, fun i c p h1 h2 h3 => .inl ⟨i, c, p, h1, h2, h3, rfl⟩⟩
/-- What is so over no heap is so over any one. -/
theorem Fn.over {f : FuncId} {args : List Value} (ha : args.all closed1 = true) {v : Value} (hv : closed1 v = true) (h : Fn P f args [] fun r _ => r = v) (H : Heap) : Fn P f args H fun r g => r = v ∧ g = H := by
  refine ⟨h.1, fun ι w args' RH r => ?_⟩
  have hr : VRs [] args args' := by
    have : args' = args := by
      clear h
      induction args generalizing args' with
      | nil => cases args' with
        | nil => rfl
        | cons _ _ => exact r.elim
      | cons x xs ih => cases args' with
        | nil => exact r.elim
        | cons y ys =>
          simp only [List.all_cons, Bool.and_eq_true] at ha
          rw [r.1.closed_inv ha.1, ih ha.2 ys r.2]
    subst this
    exact VRs.closed fun x hx => List.all_eq_true.1 ha x hx
  refine Calls.mono (h.2 [] w args' ⟨rfl, fun i b hb => by simp [hget] at hb, fun i j b c p q hb => by simp [hget] at hb⟩ hr) ?_
  rintro e w' ⟨κ, u, y, h', rfl, rfl, hv', _, g⟩
  have b : Below w.heap.size w w' := below_of g fun i b hb => by simp [hget] at hb
  obtain rfl := hv'.closed_inv hv
  exact ⟨ι, _, _, H, ⟨rfl, rfl⟩, rfl, .same _ hv, RH.below b, Below.grow b⟩
end Go.Sx
end
section
/-
  Sx, part Z: regions whose order is drawn, by the rules of part U. Own words; no condition.
-/
namespace Go.Sx
open Go
variable {P : Program} {ty : TypeId → Option TD} {N : Nat} {X : Mode}

/-- The blocks that stood stand as they did. -/
def Agree (h h' : Heap) : Prop := ∀ i b, hget h i = some b → hget h' i = some b
theorem Agree.refl (h : Heap) : Agree h h := fun _ _ q => q
theorem Agree.trans {a b c : Heap} (x : Agree a b) (y : Agree b c) : Agree a c := fun i q h => y i q (x i q h)
theorem Agree.cellsAt {h h' : Heap} (a : Agree h h') {i : Nat} {cs : List Value} (q : cellsAt h i = some cs) : cellsAt h' i = some cs := by
  unfold Sx.cellsAt at *
  split at q
  · rename_i cs' o u hg
    rw [a i _ hg]; exact q
  · rename_i u hg
    rw [a i _ hg]; exact q
  · simp at q
theorem Agree.rowOf {h h' : Heap} (a : Agree h h') {z : Nat} {v : Value} {l : List Value} (q : rowOf z h v = some l) : rowOf z h' v = some l := by
  unfold Sx.rowOf at *
  split at q
  · exact q
  · simp only [Option.bind_eq_some_iff] at q ⊢
    obtain ⟨cs, hcs, q⟩ := q
    exact ⟨cs, a.cellsAt hcs, q⟩
  · exact q
  · simp at q
theorem Agree.ownUnit {h h' : Heap} (a : Agree h h') {i u : Nat} (q : ownUnit h i = some u) : ownUnit h' i = some u := by
  unfold Sx.ownUnit at *
  split at q
  · rename_i cs o u' hg
    rw [a i _ hg]; exact q
  · rename_i u' hg
    rw [a i _ hg]; exact q
  · simp at q
theorem Agree.loadC {h h' : Heap} (a : Agree h h') {d : TD} {p v : Value} (q : loadC d h p = some v) : loadC d h' p = some v := by
  unfold Sx.loadC at *
  split at q
  · split at q
    · rename_i cs hcs
      rw [a.cellsAt hcs]; exact q
    · simp at q
  · simp at q
theorem Agree.convC {h h' : Heap} (a : Agree h h') {s t : TypeId} {x v : Value} (q : convC ty h s t x = some v) : convC ty h' s t x = some v := by
  unfold Sx.convC at *
  simp only [Option.bind_eq_some_iff] at q ⊢
  obtain ⟨d, hd, ds, hds, q⟩ := q
  refine ⟨d, hd, ds, hds, ?_⟩
  split at q
  · exact q
  · split at q
    · split at q
      · simp only [Option.bind_eq_some_iff] at q ⊢
        obtain ⟨de, hde, q⟩ := q
        refine ⟨de, hde, ?_⟩
        split at q
        · simp only [Option.bind_eq_some_iff] at q ⊢
          obtain ⟨l, hl, q⟩ := q
          exact ⟨l, a.rowOf hl, q⟩
        · simp at q
      · simp at q
    · simp at q
  · exact q
  · simp at q
theorem Agree.sliceC {h h' : Heap} (a : Agree h h') {t : TypeId} {x v : Value} {lo hi mx : Option Value} (q : sliceC ty h t x lo hi mx = some v) : sliceC ty h' t x lo hi mx = some v := by
  unfold Sx.sliceC at *
  simp only [Option.bind_eq_some_iff] at q ⊢
  obtain ⟨d, hd, q⟩ := q
  refine ⟨d, hd, ?_⟩
  split at q
  · simp only [Option.bind_eq_some_iff] at q ⊢
    obtain ⟨de, hde, q⟩ := q
    refine ⟨de, hde, ?_⟩
    split at q
    · split at q
      · rename_i hc
        rw [if_pos hc]
        split at q
        · exact q
        · simp only [Option.bind_eq_some_iff] at q ⊢
          obtain ⟨u, hu, l, hl, q⟩ := q
          refine ⟨u, hu, l, hl, ?_⟩
          split at q
          · split at q
            · rename_i ho
              rw [a.ownUnit ho, if_pos rfl]; exact q
            · simp at q
          · simp at q
      · rename_i hc
        rw [if_neg hc]; exact q
    · simp at q
  · exact q
  · exact q
  · simp at q
theorem semP_agree {γ : Bool} {o : Op} {tm : List (Nat × Ent)} {h h' : Heap} (a : Agree h h') {v : Value} (q : semP ty γ o tm h = some v) : semP ty γ o tm h' = some v := by
  cases o with
  | load t x =>
    simp only [semP, Option.bind_eq_some_iff] at q ⊢
    obtain ⟨d, hd, p, hp, q⟩ := q
    exact ⟨d, hd, p, hp, a.loadC q⟩
  | convert s t x =>
    simp only [semP, Option.bind_eq_some_iff] at q ⊢
    obtain ⟨p, hp, q⟩ := q
    exact ⟨p, hp, a.convC q⟩
  | slice t x lo hi mx =>
    simp only [semP, Option.bind_eq_some_iff] at q ⊢
    obtain ⟨p, hp, l, hl, u, hu, m, hm, q⟩ := q
    exact ⟨p, hp, l, hl, u, hu, m, hm, a.sliceC q⟩
  | _ => exact q
noncomputable section
/-- What a guard says of a slot. -/
def askG (all : List Oper) (tm : List (Nat × Ent)) (g : Nat × Bool) : Option (Option Bool) := (guardSlot all g).bind fun t => (lk tm t).bind guardW
def stepQ (P : Program) (ty : TypeId → Option TD) (N : Nat) (all : List Oper) (o : Oper) (K : St → Prop) (s : St) : Prop :=
  match dstOk N o with
  | false => False
  | true => match o.guard with
    | none => exec P ty o K s
    | some g => match askG all s.tm g with
      | some (some b) => match b == g.2 with
        | true => exec P ty o K s
        | false => K ⟨put o.dst (.v undef) s.tm, s.h⟩
      | some none => K ⟨put o.dst (.v undef) s.tm, s.h⟩
      | none => False
/-- What a quiet operation leaves. -/
def softQ (ty : TypeId → Option TD) (N : Nat) (all : List Oper) (o : Oper) (tm : List (Nat × Ent)) (h : Heap) : Option Ent :=
  match dstOk N o with
  | false => none
  | true => match kindA ty o.op with
    | true => none
    | false => match o.guard with
      | none => (semP ty true o.op tm h).map .v
      | some g => match askG all tm g with
        | some (some b) => match b == g.2 with
          | true => (semP ty true o.op tm h).map .v
          | false => some (.v undef)
        | some none => some (.v undef)
        | none => none
end
theorem softQ_agree {all : List Oper} {o : Oper} {tm : List (Nat × Ent)} {h h' : Heap} (a : Agree h h') {e : Ent} (q : softQ ty N all o tm h = some e) : softQ ty N all o tm h' = some e := by
  unfold softQ at *
  split at q
  · simp at q
  · split at q
    · simp at q
    · split at q
      · simp only [Option.map_eq_some_iff] at q ⊢
        obtain ⟨v, hv, rfl⟩ := q
        exact ⟨v, semP_agree a hv, rfl⟩
      · split at q
        · split at q
          · simp only [Option.map_eq_some_iff] at q ⊢
            obtain ⟨v, hv, rfl⟩ := q
            exact ⟨v, semP_agree a hv, rfl⟩
          · exact q
        · exact q
        · simp at q
theorem stepQ_sound (T : TyOk P ty) {ι : List Place} {s : St} {a : Act} {w : World} (L : Like ι s N a w) {ops : Array Oper} {o : Oper} {K : St → Prop} (h : stepQ P ty N ops.toList o K s) (Q : Exit → Act → World → Prop) :
    if Region.wanted o (yielded ops a.tmps) then o.wp P a w (Goes ι s.h w N K) Q else Goes ι s.h w N K (a.put o.dst undef) w := by
  unfold stepQ at h
  split at h
  · exact h.elim
  · rename_i hd
    have hlt := dstOk_lt hd
    have skip : K ⟨put o.dst (.v undef) s.tm, s.h⟩ → Goes ι s.h w N K (a.put o.dst undef) w := fun hk => ⟨ι, _, hk, ⟨L.1, L.2.put hlt undef_VR⟩, .refl _ _ _⟩
    split at h
    · rename_i hg
      rw [if_pos (by simp [Region.wanted, hg])]
      exact exec_sound T L hd h Q
    · rename_i g hg
      split at h
      · rename_i b hb
        simp only [askG, Option.bind_eq_some_iff] at hb
        obtain ⟨t, ht, e, he, hb⟩ := hb
        obtain rfl := guardW_some hb
        obtain ⟨w1, _⟩ := wanted_of L.2 hg ht he
        rw [w1 b rfl]
        split at h
        · rename_i hw; rw [if_pos hw]; exact exec_sound T L hd h Q
        · rename_i hw; rw [if_neg (by rw [hw]; decide)]; exact skip h
      · rename_i hb
        simp only [askG, Option.bind_eq_some_iff] at hb
        obtain ⟨t, ht, e, he, hb⟩ := hb
        obtain ⟨vs, rfl⟩ := guardW_none hb
        obtain ⟨_, w2⟩ := wanted_of L.2 hg ht he
        rw [w2 vs rfl, if_neg (by decide)]
        exact skip h
      · exact h.elim
theorem callee_soft {tm : List (Nat × Ent)} {o : Op} (h : isP o = true) : callee tm o = none := callee_isP h
theorem stepQ_soft {all : List Oper} {o : Oper} {tm : List (Nat × Ent)} {h : Heap} {e : Ent} (hp : isP o.op = true) (he : softQ ty N all o tm h = some e) {K : St → Prop} (hk : K ⟨put o.dst e tm, h⟩) : stepQ P ty N all o K ⟨tm, h⟩ := by
  unfold softQ at he
  unfold stepQ
  split at he
  · simp at he
  · rename_i hd
    simp only []
    split at he
    · simp at he
    · rename_i hA
      have ex : ∀ v, semP ty true o.op tm h = some v → e = .v v → exec P ty o K ⟨tm, h⟩ := by
        rintro v hv rfl
        unfold exec
        simp only [callee_isP hp, semA_none hA, hv]
        exact hk
      cases hg : o.guard with
      | none =>
        simp only [hg, Option.map_eq_some_iff] at he ⊢
        obtain ⟨v, hv, rfl⟩ := he
        exact ex v hv rfl
      | some g =>
        simp only [hg] at he ⊢
        cases hb : askG all tm g with
        | none => simp [hb] at he
        | some q =>
          cases q with
          | none => simp only [hb, Option.some.injEq] at he ⊢; subst he; exact hk
          | some b =>
            simp only [hb] at he ⊢
            cases hw : b == g.2 with
            | true =>
              simp only [hw, Option.map_eq_some_iff] at he ⊢
              obtain ⟨v, hv, rfl⟩ := he
              exact ex v hv rfl
            | false => simp only [hw, Option.some.injEq] at he ⊢; subst he; exact hk
theorem askG_congr {all : List Oper} {s s' : List (Nat × Ent)} {g : Nat × Bool} (h : ∀ t, ((all[g.1]?).bind fun o => o.dst) = some t → lk s t = lk s' t) : askG all s g = askG all s' g := by
  unfold askG guardSlot
  cases hd : ((all[g.1]?).bind fun o => o.dst) with
  | none => rfl
  | some t => simp only [Option.bind_some, h t hd]
theorem softQ_congr {all : List Oper} {s s' : List (Nat × Ent)} {o : Oper} (h : Alike' all s s' o) (hp : Heap) : softQ ty N all o s hp = softQ ty N all o s' hp := by
  unfold softQ
  have e : semP ty true o.op s hp = semP ty true o.op s' hp := semP_congr h.1 hp
  cases hg : o.guard with
  | none => simp only [e]
  | some g => simp only [e, askG_congr (h.2 g hg)]
theorem stepQ_congr {all : List Oper} {s s' : List (Nat × Ent)} {o : Oper} (h : Alike' all s s' o) {hp : Heap} {K : St → Prop} (q : stepQ P ty N all o K ⟨s, hp⟩) :
    stepQ P ty N all o (fun z => ∃ u h', z = ⟨put o.dst u s', h'⟩ ∧ K ⟨put o.dst u s, h'⟩) ⟨s', hp⟩ := by
  unfold stepQ at *
  split at q
  · exact q.elim
  · simp only
    cases hg : o.guard with
    | none => simp only [hg] at q ⊢; exact exec_congr h.1 q
    | some g =>
      simp only [hg] at q ⊢
      rw [← askG_congr (h.2 g hg)]
      split at q
      · split at q
        · exact exec_congr h.1 q
        · exact ⟨_, _, rfl, q⟩
      · exact ⟨_, _, rfl, q⟩
      · exact q.elim
theorem stepQ_mono {all : List Oper} {o : Oper} {s : St} {K K' : St → Prop} (hk : ∀ s, K s → K' s) (q : stepQ P ty N all o K s) : stepQ P ty N all o K' s := by
  unfold stepQ at *
  split at q
  · exact q.elim
  · split at q
    · exact exec_mono hk q
    · split at q
      · split at q
        · exact exec_mono hk q
        · exact hk _ q
      · exact hk _ q
      · exact q.elim
section
variable (P : Program) (ty : TypeId → Option TD) (N : Nat) (ops : Array Oper)
/-- Whatever order is drawn: S holds behind each operation, K in the end. -/
def DQ (S : Nat → Heap → Prop) (K : St → Prop) : Nat → Array Bool → St → Prop
  | 0, listed, s => Region.ready .any ops listed = [] ∧ K s
  | fuel + 1, listed, s => (Region.ready .any ops listed = [] → K s) ∧
    ∀ i ∈ Region.ready .any ops listed, ∀ o, ops[i]? = some o → stepQ P ty N ops.toList o (fun s' => (s'.h = s.h ∨ S i s'.h) ∧ DQ S K fuel (listed.setIfInBounds i true) s') s
end
variable {ops : Array Oper}
theorem DQ.mono {S S' : Nat → Heap → Prop} (hS : ∀ i h, S i h → S' i h) {K : St → Prop} : ∀ {fuel : Nat} {listed : Array Bool} {s : St}, DQ P ty N ops S K fuel listed s → DQ P ty N ops S' K fuel listed s
  | 0, _, _, h => h
  | _ + 1, _, _, ⟨h1, h2⟩ => ⟨h1, fun i hi o ho => stepQ_mono (fun _ ⟨a, b⟩ => ⟨a.imp id (hS _ _), DQ.mono hS b⟩) (h2 i hi o ho)⟩
theorem DQ.congr {S : Nat → Heap → Prop} {K : St → Prop} (hK : ByNumber K) : ∀ {fuel : Nat} {listed : Array Bool} {tm tm' : List (Nat × Ent)} {h : Heap}, (∀ t, lk tm t = lk tm' t) → DQ P ty N ops S K fuel listed ⟨tm, h⟩ → DQ P ty N ops S K fuel listed ⟨tm', h⟩
  | 0, _, _, _, _, e, h => ⟨h.1, hK _ _ _ e h.2⟩
  | _ + 1, _, _, _, _, e, ⟨h1, h2⟩ => ⟨fun h0 => hK _ _ _ e (h1 h0), fun i hi o ho => by
      refine stepQ_mono ?_ (stepQ_congr (s' := _) ⟨fun t _ => e t, fun _ _ t _ => e t⟩ (h2 i hi o ho))
      rintro z ⟨u, h', rfl, a, b⟩
      exact ⟨a, DQ.congr hK (fun t => by rw [lk_put, lk_put, e t]) b⟩⟩
theorem dq_sound (T : TyOk P ty) {S : Nat → Heap → Prop} {K : St → Prop} {Q : Exit → Act → World → Prop} : ∀ {fuel : Nat} {listed : Array Bool} {s : St} {ι : List Place} {a : Act} {w : World}, Like ι s N a w → DQ P ty N ops S K fuel listed s →
    (∀ a' w', Goes ι s.h w N K a' w' → Q .normal a' w') → wpAny P .any ops Q fuel listed a w
  | 0, _, s, ι, a, w, L, h, hQ => ⟨h.1, hQ _ _ ⟨ι, s, h.2, L, .refl _ _ _⟩⟩
  | fuel + 1, listed, s, ι, a, w, L, h, hQ => by
    refine ⟨fun h0 => hQ _ _ ⟨ι, s, h.1 h0, L, .refl _ _ _⟩, fun i hi => ?_⟩
    obtain ⟨_, o, ho, _⟩ := mem_ready.1 hi
    have hs := stepQ_sound T L (h.2 i hi o ho) Q
    have next : ∀ a' w', Goes ι s.h w N (fun s' => (s'.h = s.h ∨ S i s'.h) ∧ DQ P ty N ops S K fuel (listed.setIfInBounds i true) s') a' w' → wpAny P .any ops Q fuel (listed.setIfInBounds i true) a' w' := by
      rintro a' w' ⟨κ, s', ⟨_, hk⟩, L', g⟩
      exact dq_sound T L' hk fun a'' w'' q => hQ a'' w'' (Goes.trans g q)
    unfold wpOp
    simp only [ho]
    split
    · rename_i hw; rw [if_pos hw] at hs; exact .inl (Oper.wp_mono next hs)
    · rename_i hw; rw [if_neg hw] at hs; exact next _ _ hs
/-- Whether the operation j does not wait for i. -/
def noEdge (ops : Array Oper) (j i : Nat) : Bool :=
  match ops[j]? with
  | some o => o.after.all fun e => !(Region.binds .any e) || !(e.on == i)
  | none => false
/-- A quiet operation may come first. -/
theorem dq_first {S : Nat → Heap → Prop} {K : St → Prop} (hK : ByNumber K) {i : Nat} {oi : Oper} (hi : ops[i]? = some oi) (hq : isP oi.op = true) : ∀ (fuel : Nat) (listed : Array Bool) (tm : List (Nat × Ent)) (h : Heap) (e : Ent),
    (∀ j oj, ops[j]? = some oj → j ≠ i → listed.getD j true = false → (∀ e ∈ oj.after, Region.binds .any e = true → e.on ≠ i) → oi.apart ops oj = true) →
    i ∈ Region.ready .any ops listed → (∀ j h', noEdge ops j i = true → S j h' → softQ ty N ops.toList oi tm h' = some e) → softQ ty N ops.toList oi tm h = some e →
    DQ P ty N ops S K fuel (listed.setIfInBounds i true) ⟨put oi.dst e tm, h⟩ → DQ P ty N ops S K (fuel + 1) listed ⟨tm, h⟩ := by
  intro fuel
  induction fuel with
  | zero =>
    intro listed tm h e _ hr hs he H
    refine ⟨fun h0 => (by rw [h0] at hr; cases hr), fun j hj o ho => ?_⟩
    by_cases hji : j = i
    · subst hji
      rw [hi] at ho; cases ho
      exact stepQ_soft hq he ⟨.inl rfl, H⟩
    · have := ready_mono hj hji
      rw [H.1] at this
      cases this
  | succ fuel ih =>
    intro listed tm h e hfree hr hs he H
    refine ⟨fun h0 => (by rw [h0] at hr; cases hr), fun j hj oj hoj => ?_⟩
    by_cases hji : j = i
    · subst hji
      rw [hi] at hoj; cases hoj
      exact stepQ_soft hq he ⟨.inl rfl, H⟩
    · have h1 := H.2 j (ready_mono hj hji) oj hoj
      obtain ⟨hjun, oj', hoj', hall⟩ := mem_ready.1 hj
      rw [hoj] at hoj'; cases hoj'
      have hnot : ∀ e ∈ oj.after, Region.binds .any e = true → e.on ≠ i := fun e he hb heq => by
        have h1 := hall e he hb
        have h0 := (mem_ready.1 hr).1
        rw [heq] at h1
        rcases Nat.lt_or_ge i listed.size with h' | h'
        · simp [h'] at h0 h1; rw [h0] at h1; cases h1
        · simp [Array.getElem?_eq_none h'] at h1
      have hno : noEdge ops j i = true := by
        unfold noEdge
        rw [hoj]
        simp only [Array.all_eq_true_iff_forall_mem, Bool.or_eq_true, Bool.not_eq_true']
        intro e he
        cases hb : Region.binds .any e with
        | false => exact .inl rfl
        | true => exact .inr (by simpa using hnot e he hb)
      obtain ⟨a1, a2, a3⟩ := Oper.apart_spec (hfree j oj hoj hji hjun hnot)
      have hfree' : ∀ k ok, ops[k]? = some ok → k ≠ i → (listed.setIfInBounds j true).getD k true = false →
          (∀ e ∈ ok.after, Region.binds .any e = true → e.on ≠ i) → oi.apart ops ok = true := fun k ok hk hki hun hno => by
        refine hfree k ok hk hki ?_ hno
        by_cases hjk : j = k
        · subst hjk; exact hjun
        · rw [getD_set_ne true hjk] at hun; exact hun
      refine stepQ_mono ?_ (stepQ_congr (alike_put a1) h1)
      rintro z ⟨u, h', rfl, hS', hd⟩
      refine ⟨hS', ih _ _ _ e hfree' (ready_mono hr (Ne.symm hji)) (fun k h'' hk hh => ?_) ?_ ?_⟩
      · rw [softQ_congr (alike_put (ops := ops) a3)]; exact hs k h'' hk hh
      · rw [softQ_congr (alike_put (ops := ops) a3)]; rcases hS' with rfl | hS'
        · exact he
        · exact hs j h' hno hS'
      · rw [Array.setIfInBounds_comm _ _ hji]
        refine DQ.congr hK (fun t => ?_) hd
        simp only [lk_put]
        by_cases h1 : oj.dst = some t
        · rw [if_pos h1, if_neg fun h2 => a2 t h2 h1, if_pos h1]
        · rw [if_neg h1, if_neg h1]

/-! ### A plan: which one is taken next -/
/-- stop: nothing more. soft: a quiet one first (w: it looks at the heap). alt: whichever of those comes up (q: what was looked at stands as it did). -/
inductive PlanQ where
  | stop
  | soft (i : Nat) (w : Bool) (r : PlanQ)
  | alt (i : Nat) (q : Bool) (r : PlanQ) (others : PlanQ)
def PlanQ.heads : PlanQ → List Nat
  | .alt i _ _ o => i :: o.heads
  | _ => []
def pendK (w : Bool) (i : Nat) (pend : List Nat) : List Nat :=
  match w with
  | true => i :: pend
  | false => pend
def PlanQ.ok (ops : Array Oper) : PlanQ → Bool → Nat → Array Bool → List Nat → Bool
  | .stop, true, _, listed, _ => (Region.ready .any ops listed).isEmpty
  | .stop, false, _, _, _ => true
  | .soft _ _ _, true, 0, _, _ => false
  | .soft i w r, true, fuel + 1, listed, pend => (Region.ready .any ops listed).contains i && Region.free .any ops listed i && (match ops[i]? with | some o => isP o.op && (w || still o.op) | none => false) && r.ok ops true fuel (listed.setIfInBounds i true) (pendK w i pend)
  | .soft _ _ _, false, _, _, _ => false
  | .alt _ _ _ _, _, 0, _, _ => false
  | .alt i q r o, b, fuel + 1, listed, pend => (!b || ((Region.ready .any ops listed).contains i && (Region.ready .any ops listed).all fun k => (i :: o.heads).contains k)) && (q || pend.all fun k => !noEdge ops i k) && r.ok ops true fuel (listed.setIfInBounds i true) pend && o.ok ops false (fuel + 1) listed pend
def softK (ty : TypeId → Option TD) (o : Op) : Prop := kindA ty o = false
def agreeAll : List Heap → Heap → Prop
  | [], _ => True
  | h :: r, h' => Agree h h' ∧ agreeAll r h'
def agreeQ : Bool → List Heap → Heap → Prop
  | true, l, h' => agreeAll l h'
  | false, _, _ => True
def pendH (w : Bool) (h : Heap) (l : List Heap) : List Heap :=
  match w with
  | true => h :: l
  | false => l
/-- The walk by a plan. -/
def popsR (P : Program) (X : Mode) (ty : TypeId → Option TD) (N : Nat) (all : List Oper) (K : St → Prop) : PlanQ → Bool → List Heap → St → Prop
  | .stop, true, _, s => K s
  | .stop, false, _, _ => True
  | .soft i w r, _, pend, s => req all[i]? fun o => softK ty o.op ∧ copsR P X ty N all [o] (fun s' => popsR P X ty N all K r true (pendH w s.h pend) s') s
  | .alt i q r o, _, pend, s => (req all[i]? fun op => copsR P X ty N all [op] (fun s' => agreeQ q pend s'.h ∧ popsR P X ty N all K r true pend s') s) ∧ popsR P X ty N all K o false pend s
theorem stepR_stepQ {all : List Oper} {o : Oper} {K : St → Prop} {s : St} (h : stepR P X ty N all o K s) : stepQ P ty N all o (fun z => ∃ tm0, (∀ t, lk tm0 t = lk z.tm t) ∧ K ⟨tm0, z.h⟩) s := by
  unfold stepR at h
  unfold stepQ
  split at h
  · rename_i hd
    simp only [hd]
    cases hg : o.guard with
    | none =>
      simp only [hg] at h ⊢
      exact exec_mono (fun z hz => ⟨z.tm, fun _ => rfl, hz⟩) (execR_exec h)
    | some g =>
      simp only [hg] at h ⊢
      obtain ⟨t, ht, h⟩ := (req_iff _ _).1 h
      obtain ⟨b, hb, h⟩ := (req_iff _ _).1 h
      have hq : askG all s.tm g = some b := by unfold askG; rw [ht]; exact hb
      simp only [Option.bind_eq_some_iff] at hb
      obtain ⟨e, he, hb⟩ := hb
      rw [hq]
      cases b with
      | none => exact ⟨_, fun _ => rfl, h⟩
      | some b =>
        obtain rfl := guardW_some hb
        obtain ⟨h1, h2⟩ := h
        simp only
        cases hw : b == g.2 with
        | true =>
          have hbg : b = g.2 := by simpa using hw
          subst hbg
          exact exec_mono (fun z hz => ⟨z.tm, fun _ => rfl, hz⟩) (execR_exec (h1 hw))
        | false =>
          have hbg : b = !g.2 := by revert hw; cases b <;> cases g.2 <;> simp
          subst hbg
          exact ⟨_, fun _ => rfl, h2 hw⟩
  · exact h.elim
theorem stepR_soft {all : List Oper} {o : Oper} {K : St → Prop} {s : St} (hp : isP o.op = true) (hA : kindA ty o.op = false) (h : stepR P X ty N all o K s) :
    ∃ e tm0, softQ ty N all o s.tm s.h = some e ∧ (∀ t, lk tm0 t = lk (put o.dst e s.tm) t) ∧ K ⟨tm0, s.h⟩ := by
  have ex : ∀ tm, (∀ t, lk tm t = lk s.tm t) → execR P X ty o K ⟨tm, s.h⟩ → ∃ v tm0, semP ty true o.op s.tm s.h = some v ∧ (∀ t, lk tm0 t = lk (put o.dst (.v v) s.tm) t) ∧ K ⟨tm0, s.h⟩ := by
    intro tm htm hx
    unfold execR at hx
    simp only [callee_isP hp, hA] at hx
    obtain ⟨v, hv, hk⟩ := (req_iff _ _).1 hx
    refine ⟨v, _, ?_, fun t => ?_, hk⟩
    · rw [← semP_congr (fun t _ => htm t)]; exact semX_le hv
    · rw [lk_put, lk_put, htm]
  unfold stepR at h
  unfold softQ
  split at h
  · rename_i hd
    simp only [hd, hA]
    cases hg : o.guard with
    | none =>
      simp only [hg] at h ⊢
      obtain ⟨v, tm0, h1, h2, h3⟩ := ex s.tm (fun _ => rfl) h
      exact ⟨.v v, tm0, by rw [h1]; rfl, h2, h3⟩
    | some g =>
      simp only [hg] at h ⊢
      obtain ⟨t, ht, h⟩ := (req_iff _ _).1 h
      obtain ⟨b, hb, h⟩ := (req_iff _ _).1 h
      have hq : askG all s.tm g = some b := by unfold askG; rw [ht]; exact hb
      simp only [Option.bind_eq_some_iff] at hb
      obtain ⟨e, he, hb⟩ := hb
      rw [hq]
      cases b with
      | none => exact ⟨_, _, rfl, fun _ => rfl, h⟩
      | some b =>
        obtain rfl := guardW_some hb
        obtain ⟨h1, h2⟩ := h
        simp only
        cases hw : b == g.2 with
        | true =>
          have hbg : b = g.2 := by simpa using hw
          subst hbg
          obtain ⟨v, tm0, a1, a2, a3⟩ := ex _ (fun _ => rfl) (h1 hw)
          exact ⟨.v v, tm0, by simp only [a1]; rfl, a2, a3⟩
        | false =>
          have hbg : b = !g.2 := by revert hw; cases b <;> cases g.2 <;> simp
          subst hbg
          exact ⟨_, _, rfl, fun _ => rfl, h2 hw⟩
  · exact h.elim
theorem agreeAll_mem {l : List Heap} {h' : Heap} (q : agreeAll l h') : ∀ h ∈ l, Agree h h' := by
  induction l with
  | nil => intro h hm; cases hm
  | cons a r ih =>
    intro h hm
    rcases List.mem_cons.1 hm with rfl | hm
    · exact q.1
    · exact ih q.2 h hm
/-- What each operation must leave as it was. -/
def Sof (ops : Array Oper) (pend : List (Nat × Heap)) (j : Nat) (h' : Heap) : Prop := ∀ p ∈ pend, noEdge ops j p.1 = true → Agree p.2 h'
theorem popsR_sound {K : St → Prop} (hK : ByNumber K) : ∀ (p : PlanQ) (b : Bool) (fuel : Nat) (listed : Array Bool) (pend : List (Nat × Heap)) (s : St), p.ok ops b fuel listed (pend.map (·.1)) = true → popsR P X ty N ops.toList K p b (pend.map (·.2)) s →
    (b = true → DQ P ty N ops (Sof ops pend) K fuel listed s) ∧ ∀ i ∈ p.heads, ∀ o, ops[i]? = some o → ∃ f, fuel = f + 1 ∧ stepQ P ty N ops.toList o (fun s' => (s'.h = s.h ∨ Sof ops pend i s'.h) ∧ DQ P ty N ops (Sof ops pend) K f (listed.setIfInBounds i true) s') s
  | .stop, b, fuel, listed, pend, s, hok, h => by
    refine ⟨?_, fun i hi => by cases hi⟩
    rintro rfl
    simp only [PlanQ.ok, List.isEmpty_iff] at hok
    simp only [popsR] at h
    cases fuel with
    | zero => exact ⟨hok, h⟩
    | succ f => exact ⟨fun _ => h, fun i hi => by rw [hok] at hi; cases hi⟩
  | .soft i w r, b, fuel, listed, pend, s, hok, h => by
    refine ⟨?_, fun i hi => by cases hi⟩
    rintro rfl
    cases fuel with
    | zero => simp [PlanQ.ok] at hok
    | succ f =>
      simp only [PlanQ.ok, Bool.and_eq_true] at hok
      obtain ⟨⟨⟨h1, h2⟩, h3⟩, h4⟩ := hok
      simp only [popsR] at h
      obtain ⟨o, ho, hA, h⟩ := (req_iff _ _).1 h
      have ho' : ops[i]? = some o := by rw [← Array.getElem?_toList]; exact ho
      rw [ho'] at h3
      simp only [Bool.and_eq_true] at h3
      obtain ⟨e, tm0, a1, a2, a3⟩ := stepR_soft h3.1 hA h
      cases w with
      | true =>
        have := (popsR_sound hK r true f _ ((i, s.h) :: pend) ⟨tm0, s.h⟩ h4 a3).1 rfl
        refine (dq_first (S := Sof ops ((i, s.h) :: pend)) hK ho' h3.1 f listed s.tm s.h e (Region.free_spec ho' h2) (by simpa using h1) (fun j h' hn hh => softQ_agree (hh (i, s.h) (by simp) hn) a1) a1 (DQ.congr hK a2 this)).mono fun j h q p hp => q p (by simp [hp])
      | false =>
        have hst : still o.op = true := by simpa using h3.2
        have := (popsR_sound hK r true f _ pend ⟨tm0, s.h⟩ h4 a3).1 rfl
        refine dq_first (S := Sof ops pend) hK ho' h3.1 f listed s.tm s.h e (Region.free_spec ho' h2) (by simpa using h1) (fun j h' hn hh => ?_) a1 (DQ.congr hK a2 this)
        have e : softQ ty N ops.toList o s.tm h' = softQ ty N ops.toList o s.tm s.h := by
          unfold softQ
          rw [semP_still hst s.tm h' s.h]
        rw [e]; exact a1
  | .alt i q r o, b, fuel, listed, pend, s, hok, h => by
    cases fuel with
    | zero => cases b <;> simp [PlanQ.ok] at hok
    | succ f =>
      simp only [PlanQ.ok, Bool.and_eq_true] at hok
      obtain ⟨⟨⟨h1, hq⟩, h2⟩, h3⟩ := hok
      simp only [popsR] at h
      obtain ⟨ha, hb⟩ := h
      have key : ∀ k ∈ (PlanQ.alt i q r o).heads, ∀ op, ops[k]? = some op → ∃ f', f + 1 = f' + 1 ∧ stepQ P ty N ops.toList op (fun s' => (s'.h = s.h ∨ Sof ops pend k s'.h) ∧ DQ P ty N ops (Sof ops pend) K f' (listed.setIfInBounds k true) s') s := by
        intro k hk op hop
        simp only [PlanQ.heads, List.mem_cons] at hk
        rcases hk with rfl | hk
        · refine ⟨f, rfl, ?_⟩
          rw [Array.getElem?_toList, hop] at ha
          have ha : stepR P X ty N ops.toList op (fun s' => agreeQ q (pend.map (·.2)) s'.h ∧ popsR P X ty N ops.toList K r true (pend.map (·.2)) s') s := ha
          refine stepQ_mono (fun s' ⟨tm0, e0, a, b⟩ => ⟨.inr ?_, ?_⟩) (stepR_stepQ ha)
          · intro p hp hn
            cases q with
            | true => exact agreeAll_mem a p.2 (List.mem_map.2 ⟨p, hp, rfl⟩)
            | false =>
              simp only [Bool.false_or, List.all_eq_true, List.mem_map, forall_exists_index, and_imp, Bool.not_eq_true'] at hq
              have := hq p.1 p hp rfl
              rw [hn] at this; cases this
          · exact DQ.congr hK e0 ((popsR_sound hK r true f _ pend ⟨tm0, s'.h⟩ h2 b).1 rfl)
        · exact (popsR_sound hK o false (f + 1) listed pend s h3 hb).2 k hk op hop
      refine ⟨?_, key⟩
      rintro rfl
      simp only [Bool.not_true, Bool.false_or, Bool.and_eq_true, List.all_eq_true] at h1
      refine ⟨fun h0 => ?_, fun k hk op hop => ?_⟩
      · rw [h0] at h1; simp at h1
      · obtain ⟨f', hf, q⟩ := key k (by simpa [PlanQ.heads] using h1.2 k hk) op hop
        cases hf
        exact q
theorem stepR_mono {all : List Oper} {o : Oper} {K K' : St → Prop} (hk : ∀ s, K s → K' s) {s : St} (h : stepR P X ty N all o K s) : stepR P X ty N all o K' s := by
  have ex : ∀ z, execR P X ty o K z → execR P X ty o K' z := by
    intro z hx
    unfold execR at *
    split at hx
    · exact CallK.of hx fun v h' h => hk _ h
    · split at hx
      · obtain ⟨v, hv, q⟩ := (req_iff _ _).1 hx
        exact (req_iff _ _).2 ⟨v, hv, hk _ q⟩
      · obtain ⟨v, hv, q⟩ := (req_iff _ _).1 hx
        exact (req_iff _ _).2 ⟨v, hv, hk _ q⟩
  unfold stepR at *
  split at h
  · split at h
    · exact ex _ h
    · obtain ⟨t, ht, h⟩ := (req_iff _ _).1 h
      refine (req_iff _ _).2 ⟨t, ht, ?_⟩
      obtain ⟨b, hb, h⟩ := (req_iff _ _).1 h
      refine (req_iff _ _).2 ⟨b, hb, ?_⟩
      cases b with
      | none => exact hk _ h
      | some b => exact ⟨fun q => ex _ (h.1 q), fun q => hk _ (h.2 q)⟩
  · exact h
theorem popsR_mono {all : List Oper} {K K' : St → Prop} (hk : ∀ s, K s → K' s) : ∀ (p : PlanQ) {b : Bool} {l : List Heap} {s : St}, popsR P X ty N all K p b l s → popsR P X ty N all K' p b l s
  | .stop, true, _, _, h => hk _ h
  | .stop, false, _, _, _ => trivial
  | .soft i w r, b, l, s, h => by
    simp only [popsR] at *
    obtain ⟨o, ho, hA, h⟩ := (req_iff _ _).1 h
    exact (req_iff _ _).2 ⟨o, ho, hA, stepR_mono (fun _ q => popsR_mono hk r q) h⟩
  | .alt i q r o, b, l, s, h => by
    simp only [popsR] at *
    refine ⟨?_, popsR_mono hk o h.2⟩
    obtain ⟨op, ho, h⟩ := (req_iff _ _).1 h.1
    exact (req_iff _ _).2 ⟨op, ho, stepR_mono (fun _ ⟨a, b⟩ => ⟨a, popsR_mono hk r b⟩) h⟩
def planOk (ops : Array Oper) (p : PlanQ) : Bool := p.ok ops true ops.size (Array.replicate ops.size false) []
/-- A region whose order is drawn, by a plan. -/
theorem cw_drawnR (T : TyOk P ty) (hm : P.follows .mixedOrders = true) (X : Mode) (ks : List Nat) (p : PlanQ) {id : Nat} {ops : Array Oper} {s : St} {Q : Exit → St → Prop} (hp : planOk ops p = true)
    (h : popsR P X ty N ops.toList (fun s => Q .normal ⟨keepT ks s.tm, s.h⟩) p true [] s) : CW P N (.region id ops true) s Q := by
  intro ι a w L
  refine wp_region_any hm ?_
  have hK : ByNumber fun s' => ∃ tm, (∀ t, lk tm t = lk s'.tm t) ∧ Q .normal ⟨keepT ks tm, s'.h⟩ := fun tm tm' h he ⟨tm0, h0, q⟩ => ⟨tm0, fun t => (h0 t).trans (he t), q⟩
  have hd := (popsR_sound (P := P) (ty := ty) (N := N) (ops := ops) (X := X) hK p true ops.size _ [] s hp (popsR_mono (fun s' q => ⟨s'.tm, fun _ => rfl, q⟩) p h)).1 rfl
  refine dq_sound T (w := { w with drawn := w.drawn + 1 }) (a := a) ⟨L.1.drew _, L.2⟩ hd ?_
  rintro a' w' ⟨κ, s', ⟨tm, h0, q⟩, L', g⟩
  exact ⟨κ, ⟨keepT ks tm, s'.h⟩, q, ⟨L'.1, L'.2.1, L'.2.2.1, fun t e he => L'.2.2.2 t e (by rw [← h0]; exact keepT_lk _ _ _ _ he)⟩, (Grow.drew _).trans g⟩
/-- A drawn region, and what follows it. -/
theorem cw_draw (T : TyOk P ty) (hm : P.follows .mixedOrders = true) (X : Mode) (ks : List Nat) (p : PlanQ) {id : Nat} {ops : Array Oper} {b : Code} {s : St} {Q : Exit → St → Prop} (hp : planOk ops p = true)
    (h : ∀ K : St → Prop, (∀ s, CW P N b s Q → K s) → popsR P X ty N ops.toList (fun s => K ⟨keepT ks s.tm, s.h⟩) p true [] s) : CW P N (.seq (.region id ops true) b) s Q :=
  cw_seq fun K hK => cw_drawnR T hm X ks p hp (h K hK)
/-- A drawn region, and nothing more. -/
theorem cw_drawl (T : TyOk P ty) (hm : P.follows .mixedOrders = true) (X : Mode) (ks : List Nat) (p : PlanQ) {id : Nat} {ops : Array Oper} {s : St} {Q : Exit → St → Prop} (hp : planOk ops p = true)
    (h : ∀ K : St → Prop, (∀ s, Q .normal s → K s) → popsR P X ty N ops.toList (fun s => K ⟨keepT ks s.tm, s.h⟩) p true [] s) : CW P N (.region id ops true) s Q :=
  cw_drawnR T hm X ks p hp (h _ fun _ q => q)

/-! ### Rules -/
@[congr] theorem popsR_congr {all : List Oper} {K : St → Prop} {p : PlanQ} {b : Bool} {l l' : List Heap} {s s' : St} (a : l = l') (c : s = s') : popsR P X ty N all K p b l s = popsR P X ty N all K p b l' s' := by rw [a, c]
@[simp] theorem popsR_stop (all : List Oper) (K : St → Prop) (l : List Heap) (s : St) : popsR P X ty N all K .stop true l s = K s := nd rfl
@[simp] theorem popsR_stop' (all : List Oper) (K : St → Prop) (l : List Heap) (s : St) : popsR P X ty N all K .stop false l s = True := nd rfl
@[simp] theorem popsR_soft (all : List Oper) (K : St → Prop) (i : Nat) (w : Bool) (r : PlanQ) (b : Bool) (l : List Heap) (tm : List (Nat × Ent)) (h : Heap) :
    popsR P X ty N all K (.soft i w r) b l ⟨tm, h⟩ = req all[i]? fun o => softK ty o.op ∧ copsR P X ty N all [o] (popsR P X ty N all K r true (pendH w h l)) ⟨tm, h⟩ := nd rfl
/-- Behind an operation that may come at another time. -/
def behind (P : Program) (X : Mode) (ty : TypeId → Option TD) (N : Nat) (all : List Oper) (K : St → Prop) (q : Bool) (r : PlanQ) (l : List Heap) (s : St) : Prop := agreeQ q l s.h ∧ popsR P X ty N all K r true l s
@[congr] theorem behind_congr {all : List Oper} {K : St → Prop} {q : Bool} {r : PlanQ} {l l' : List Heap} {s s' : St} (a : l = l') (c : s = s') : behind P X ty N all K q r l s = behind P X ty N all K q r l' s' := by rw [a, c]
@[simp] theorem behind_eq (all : List Oper) (K : St → Prop) (q : Bool) (r : PlanQ) (l : List Heap) (tm : List (Nat × Ent)) (h : Heap) : behind P X ty N all K q r l ⟨tm, h⟩ = (agreeQ q l h ∧ popsR P X ty N all K r true l ⟨tm, h⟩) := nd rfl
@[simp] theorem popsR_alt (all : List Oper) (K : St → Prop) (i : Nat) (q : Bool) (r o : PlanQ) (b : Bool) (l : List Heap) (tm : List (Nat × Ent)) (h : Heap) :
    popsR P X ty N all K (.alt i q r o) b l ⟨tm, h⟩ = ((req all[i]? fun op => copsR P X ty N all [op] (behind P X ty N all K q r l) ⟨tm, h⟩) ∧ popsR P X ty N all K o false l ⟨tm, h⟩) := nd rfl
@[simp] theorem agreeQ_t (l : List Heap) (h : Heap) : agreeQ true l h = agreeAll l h := nd rfl
@[simp] theorem agreeQ_f (l : List Heap) (h : Heap) : agreeQ false l h = True := nd rfl
@[simp] theorem agreeAll_nil (h : Heap) : agreeAll [] h = True := nd rfl
@[simp] theorem agreeAll_cons (g : Heap) (l : List Heap) (h : Heap) : agreeAll (g :: l) h = (Agree g h ∧ agreeAll l h) := nd rfl
@[simp] theorem pendH_t (h : Heap) (l : List Heap) : pendH true h l = h :: l := nd rfl
@[simp] theorem pendH_f (h : Heap) (l : List Heap) : pendH false h l = l := nd rfl
@[simp] theorem agree_refl (h : Heap) : Agree h h = True := eq_true (Agree.refl h)
@[simp] theorem agree_app (h L : Heap) : Agree h (h ++ L) = True := eq_true fun _ _ q => hget_old q L
@[simp] theorem agree_app2 (h L M : Heap) : Agree (h ++ L) (h ++ (L ++ M)) = True := eq_true (by rw [← List.append_assoc]; exact fun _ _ q => hget_old q M)
section
variable (x y z : Operand) (t u : TypeId)
@[simp] theorem softK_move : softK ty (.move x) = True := eq_true rfl
@[simp] theorem softK_assign : softK ty (.assign x) = True := eq_true rfl
@[simp] theorem softK_pick : softK ty (.pick x y z) = True := eq_true rfl
@[simp] theorem softK_build (ps : Array (Nat × Operand)) : softK ty (.build t ps) = True := eq_true rfl
@[simp] theorem softK_load : softK ty (.load t x) = True := eq_true rfl
@[simp] theorem softK_nilCheck : softK ty (.nilCheck x) = True := eq_true rfl
@[simp] theorem softK_binOp (o : BinOp) : softK ty (.binOp o t x y u) = True := eq_true rfl
@[simp] theorem softK_unOp (o : UnOp) : softK ty (.unOp o t x) = True := eq_true rfl
@[simp] theorem softK_convert : softK ty (.convert t u x) = (isSliceD (ty u) = false) := nd rfl
@[simp] theorem softK_stap : softK ty (.sliceToArrayPointer t x) = True := eq_true rfl
@[simp] theorem softK_makeInterface : softK ty (.makeInterface t x) = True := eq_true rfl
@[simp] theorem softK_makeFunc (f : Go.Fn) (a b : Array Operand) : softK ty (.makeFunc f a b) = True := eq_true rfl
@[simp] theorem softK_slice (a b c : Option Operand) : softK ty (.slice t x a b c) = True := eq_true rfl
@[simp] theorem softK_fieldAddr (n : Nat) : softK ty (.fieldAddr t x n) = True := eq_true rfl
@[simp] theorem softK_field (n : Nat) : softK ty (.field t x n) = True := eq_true rfl
@[simp] theorem softK_indexAddr : softK ty (.indexAddr t x y) = True := eq_true rfl
@[simp] theorem softK_index : softK ty (.index t x y) = True := eq_true rfl
@[simp] theorem softK_extract (n : Nat) : softK ty (.extract x n) = True := eq_true rfl
@[simp] theorem softK_len (a : Array Operand) (b : Array TypeId) : softK ty (.call ⟨.builtin .len, a, b⟩) = True := eq_true rfl
@[simp] theorem softK_min (a : Array Operand) (b : Array TypeId) : softK ty (.call ⟨.builtin .min, a, b⟩) = True := eq_true rfl
@[simp] theorem softK_max (a : Array Operand) (b : Array TypeId) : softK ty (.call ⟨.builtin .max, a, b⟩) = True := eq_true rfl
end
/-- What follows, where two ways come together: what is so with fewer slots is so with more. -/
theorem cw_join {a b : Code} {s : St} {Q : Exit → St → Prop} (h : ∀ K : St → Prop, (∀ s, CW P N b s Q → K s) → (∀ tm tm' h, subT tm tm' → K ⟨tm, h⟩ → K ⟨tm', h⟩) → CW P N a s (thenC K Q)) : CW P N (.seq a b) s Q :=
  cw_seq fun K hK => (h (fun s => CW P N b s Q) (fun _ h => h) (fun _ _ _ hs h => cw_weak (Weak.slots hs) rfl h)).mono fun e s q => by
    cases e with
    | normal => exact hK s q
    | _ => exact q
@[simp] theorem u8s_getE (l : List UInt8) (k : Nat) (h : k < (u8s l).length) : (u8s l)[k] = .int .u8 ((l[k]'(by simpa using h)).toNat : Int) := by simp [u8s]
@[simp] theorem subT_nil (tm : List (Nat × Ent)) : subT [] tm = True := nd rfl
@[simp] theorem subT_cons (t : Nat) (e : Ent) (r tm : List (Nat × Ent)) : subT ((t, e) :: r) tm = (lk tm t = some e ∧ subT r tm) := nd rfl
end Go.Sx
end
section
/-
  Sx, part W: more rules: slicing, building, appending, copying. Own words; no condition.
-/
namespace Go.Sx
open Go
variable {P : Program} {ty : TypeId → Option TD} {N : Nat} {X : Mode}
section
variable (K : St → Prop) (tm : List (Nat × Ent)) (h : Heap) (d : Option Tmp)
theorem OPEN_eq : OPEN = 1180591620717411303424 := rfl
@[simp] theorem E_stap (t : TypeId) (x : Operand) : E P X ty (.sliceToArrayPointer t x) d K tm h = req (ty t) fun D => req (ev true tm x) fun a => req (match D.desc with
      | .array n _ => match a with
        | .slice b len _ => if n ≤ len ∧ 0 < n then some (.pointer b) else none
        | _ => none
      | _ => none) fun v => K ⟨put d (.v v) tm, h⟩ := by
  simp only [E, execR, callee, kindA, semX, semP, req_bind]
  exact nd rfl
/-! slicing -/
@[simp] theorem boundC_n (a b : Nat) : boundC none a b = if a ≤ b then some a else none := nd rfl
@[simp] theorem boundC_v (k : IntKind) (i : Int) (a b : Nat) : boundC (some (.int k i)) a b = if 0 ≤ i ∧ i ≤ b then some i.toNat else none := nd rfl
@[simp] theorem mkSl_eq (a : Option Addr) (l c : Nat) : mkSl a l c = if c = OPEN then none else some (.slice a l c) := nd rfl
def slcO (hp : Heap) (sz b k len : Nat) (lo hi mx : Option Value) : Option Value :=
  match mx with
  | some _ => match hi with
    | some _ => (boundC mx len len).bind fun m => (boundC hi len m).bind fun h => (boundC lo 0 h).bind fun l => if m = l then none else mkSl (some ⟨b, k + l * sz, none⟩) (h - l) (m - l)
    | none => none
  | none => (boundC hi len len).bind fun h => (boundC lo 0 h).bind fun l => if ownUnit hp b = some sz then some (.slice (some ⟨b, k + l * sz, none⟩) (h - l) OPEN) else none
def slcN (sz b k len cap : Nat) (lo hi mx : Option Value) : Option Value :=
  match mx with
  | some _ => match hi with
    | some _ => (boundC mx cap cap).bind fun m => (boundC hi len m).bind fun h => (boundC lo 0 h).bind fun l => mkSl (some (if m = l then ⟨b, k, none⟩ else ⟨b, k + l * sz, none⟩)) (h - l) (m - l)
    | none => none
  | none => (boundC hi len cap).bind fun h => (boundC lo 0 h).bind fun l => mkSl (some (if cap = l then ⟨b, k, none⟩ else ⟨b, k + l * sz, none⟩)) (h - l) (cap - l)
def slcE (len cap : Nat) (lo hi mx : Option Value) : Option Value :=
  match mx with
  | some _ => match hi with
    | some _ => (boundC mx cap cap).bind fun m => (boundC hi len m).bind fun h => (boundC lo 0 h).bind fun l => some (.slice none (h - l) (m - l))
    | none => none
  | none => (boundC hi len cap).bind fun h => (boundC lo 0 h).bind fun l => some (.slice none (h - l) (cap - l))
def slcS (s : ByteArray) (lo hi mx : Option Value) : Option Value :=
  match mx with
  | none => (boundC hi s.size s.size).bind fun h => (boundC lo 0 h).map fun l => .string (s.extract l h)
  | some _ => none
def slcD (ty : TypeId → Option TD) (hp : Heap) (D : TypeDesc) (x : Value) (lo hi mx : Option Value) : Option Value :=
  match D with
  | .slice e => (ty e).bind fun d' => match x with
    | .slice (some ⟨b, k, none⟩) len cap => if cap = OPEN then slcO hp d'.size b k len lo hi mx else slcN d'.size b k len cap lo hi mx
    | .slice none len cap => if cap = OPEN then none else slcE len cap lo hi mx
    | _ => none
  | .string => match x with
    | .string s => slcS s lo hi mx
    | _ => none
  | .array n e => (ty e).bind fun d' => match x with
    | .pointer (some ⟨b, k, none⟩) => slcN d'.size b k n n lo hi mx
    | _ => none
  | _ => none
theorem bind_none' {α β : Type} (o : Option α) : (o.bind fun _ => (none : Option β)) = none := by cases o <;> rfl
@[simp] theorem sliceC_eq (t : TypeId) (x : Value) (lo hi mx : Option Value) : sliceC ty h t x lo hi mx = (ty t).bind fun d => slcD ty h d.desc x lo hi mx := by
  unfold sliceC
  cases ty t with
  | none => rfl
  | some D =>
    simp only [Option.bind_some]
    cases hD : D.desc with
    | slice e =>
      simp only [slcD]
      cases ty e with
      | none => rfl
      | some D' =>
        simp only [Option.bind_some]
        cases x with
        | slice a len cap =>
          cases a with
          | none =>
            simp only
            by_cases hc : cap = OPEN
            · rw [if_pos hc, if_pos hc]
              cases mx with
              | none => simp only [bind_none']
              | some _ => cases hi <;> simp only [bind_none']
            · rw [if_neg hc, if_neg hc]; rfl
          | some a =>
            obtain ⟨b, k, sp⟩ := a
            cases sp with
            | none =>
              simp only
              by_cases hc : cap = OPEN
              · rw [if_pos hc, if_pos hc]; rfl
              · rw [if_neg hc, if_neg hc]; rfl
            | some _ =>
              simp only
              by_cases hc : cap = OPEN
              · rw [if_pos hc]
                cases mx with
                | none => simp only [bind_none']
                | some _ => cases hi <;> simp only [bind_none']
              · rw [if_neg hc]
                cases mx with
                | none => simp only [bind_none']
                | some _ => cases hi <;> simp only [bind_none']
        | _ => rfl
    | string => simp only [slcD]; cases x <;> rfl
    | array n e =>
      simp only [slcD]
      cases ty e with
      | none => rfl
      | some D' =>
        simp only [Option.bind_some]
        cases x with
        | pointer a =>
          cases a with
          | none => rfl
          | some a => obtain ⟨b, k, sp⟩ := a; cases sp <;> rfl
        | _ => rfl
    | _ => simp only [slcD]
@[simp] theorem slcD_slice (e : TypeId) (b k len cap : Nat) (lo hi mx : Option Value) : slcD ty h (.slice e) (.slice (some ⟨b, k, none⟩) len cap) lo hi mx = (ty e).bind fun d' => if cap = OPEN then slcO h d'.size b k len lo hi mx else slcN d'.size b k len cap lo hi mx := nd rfl
@[simp] theorem slcD_nil (e : TypeId) (len cap : Nat) (lo hi mx : Option Value) : slcD ty h (.slice e) (.slice none len cap) lo hi mx = (ty e).bind fun _ => if cap = OPEN then none else slcE len cap lo hi mx := nd rfl
@[simp] theorem slcD_string (s : ByteArray) (lo hi mx : Option Value) : slcD ty h .string (.string s) lo hi mx = slcS s lo hi mx := nd rfl
@[simp] theorem slcD_array (n : Nat) (e : TypeId) (b k : Nat) (lo hi mx : Option Value) : slcD ty h (.array n e) (.pointer (some ⟨b, k, none⟩)) lo hi mx = (ty e).bind fun d' => slcN d'.size b k n n lo hi mx := nd rfl
@[simp] theorem slcN_2 (sz b k len cap : Nat) (lo hi : Option Value) : slcN sz b k len cap lo hi none = (boundC hi len cap).bind fun h => (boundC lo 0 h).bind fun l => mkSl (some ⟨b, if cap = l then k else k + l * sz, none⟩) (h - l) (cap - l) := by
  simp only [slcN]
  congr 1; funext u; congr 1; funext l
  by_cases hc : cap = l <;> simp [hc]
@[simp] theorem slcN_3 (sz b k len cap : Nat) (lo : Option Value) (x y : Value) : slcN sz b k len cap lo (some x) (some y) = (boundC (some y) cap cap).bind fun m => (boundC (some x) len m).bind fun h => (boundC lo 0 h).bind fun l => mkSl (some ⟨b, if m = l then k else k + l * sz, none⟩) (h - l) (m - l) := by
  simp only [slcN]
  congr 1; funext m; congr 1; funext u; congr 1; funext l
  by_cases hc : m = l <;> simp [hc]
@[simp] theorem slcO_2 (sz b k len : Nat) (lo hi : Option Value) : slcO h sz b k len lo hi none = (boundC hi len len).bind fun u => (boundC lo 0 u).bind fun l => if ownUnit h b = some sz then some (.slice (some ⟨b, k + l * sz, none⟩) (u - l) OPEN) else none := nd rfl
@[simp] theorem slcO_3 (sz b k len : Nat) (lo : Option Value) (x y : Value) : slcO h sz b k len lo (some x) (some y) = (boundC (some y) len len).bind fun m => (boundC (some x) len m).bind fun u => (boundC lo 0 u).bind fun l => if m = l then none else mkSl (some ⟨b, k + l * sz, none⟩) (u - l) (m - l) := nd rfl
@[simp] theorem slcE_2 (len cap : Nat) (lo hi : Option Value) : slcE len cap lo hi none = (boundC hi len cap).bind fun h => (boundC lo 0 h).bind fun l => some (.slice none (h - l) (cap - l)) := nd rfl
@[simp] theorem slcS_2 (s : ByteArray) (lo hi : Option Value) : slcS s lo hi none = (boundC hi s.size s.size).bind fun h => (boundC lo 0 h).map fun l => .string (s.extract l h) := nd rfl
def unitB (b : Option Blk) : Option Nat :=
  match b with
  | some (.cells _ true u) => some u
  | some (.void u) => some u
  | _ => none
@[simp] theorem unitB_grown (cs : List Value) (u : Nat) : unitB (some (grown cs u)) = some u := by cases cs <;> rfl
@[simp] theorem unitB_own (cs : List Value) (u : Nat) : unitB (some (.cells cs true u)) = some u := nd rfl
@[simp] theorem ownUnit_eq (i : Nat) : ownUnit h i = unitB (hget h i) := by
  unfold ownUnit unitB
  cases hget h i with
  | none => rfl
  | some b => cases b with
    | map _ _ => rfl
    | void _ => rfl
    | cells cs o u => cases o <;> rfl
/-! building -/
def bldD (ty : TypeId → Option TD) (D : TypeDesc) (z : List Value) (ps : List (Nat × Value)) : Option Value :=
  match D with
  | .struct fs => if fieldsKnown ty fs.toList = true then (fillC (fplace ty fs) z ps).map fun l => .agg l.toArray else none
  | .array _ e => (ty e).bind fun d' => (fillC (fun i => some (i * d'.size, d'.size)) z ps).map fun l => .agg l.toArray
  | _ => none
@[simp] theorem buildC_eq (t : TypeId) (ps : List (Nat × Value)) : buildC ty t ps = (ty t).bind fun d => bldD ty d.desc d.zero ps := nd rfl
@[simp] theorem bldD_struct (fs : Array Field) (z : List Value) (ps : List (Nat × Value)) : bldD ty (.struct fs) z ps = if fieldsKnown ty fs.toList = true then (fillC (fplace ty fs) z ps).map fun l => .agg l.toArray else none := nd rfl
def aplace (n : Nat) (i : Nat) : Option (Nat × Nat) := some (i * n, n)
@[simp] theorem aplace_eq (n i : Nat) : aplace n i = some (i * n, n) := nd rfl
@[simp] theorem bldD_array (n : Nat) (e : TypeId) (z : List Value) (ps : List (Nat × Value)) : bldD ty (.array n e) z ps = (ty e).bind fun d' => (fillC (aplace d'.size) z ps).map fun l => .agg l.toArray := nd rfl
@[simp] theorem fieldsKnown_nil : fieldsKnown ty [] = true := nd rfl
@[simp] theorem fieldsKnown_cons (f : Field) (r : List Field) : fieldsKnown ty (f :: r) = ((ty f.type).isSome && fieldsKnown ty r) := nd rfl
@[simp] theorem fplace_eq (fs : Array Field) (i : Nat) : fplace ty fs i = (fs[i]?).bind fun f => (ty f.type).map fun d => (f.offset, d.size) := nd rfl
@[simp] theorem fillC_nil (pl : Nat → Option (Nat × Nat)) (cs : List Value) : fillC pl cs [] = some cs := nd rfl
@[simp] theorem fillC_cons (pl : Nat → Option (Nat × Nat)) (cs : List Value) (i : Nat) (v : Value) (r : List (Nat × Value)) : fillC pl cs ((i, v) :: r) = (pl i).bind fun p => if v.cells.toList.length = p.2 ∧ p.1 + p.2 ≤ cs.length then fillC pl (setL cs p.1 v.cells.toList) r else none := nd rfl
def bldS (ty : TypeId → Option TD) (D : TypeDesc) (n : Nat) (l : List (Nat × Value)) (h : Heap) : Option (Value × Heap) :=
  match D with
  | .slice e => (ty e).bind fun d' => if n * d'.size ≤ 16777216 ∧ n ≤ 16777216 then (fillC (aplace d'.size) (zerosN d'.zero n) l).map fun cs => (.slice (some ⟨h.length, 0, none⟩) n n, h ++ [some (.cells cs true 0)]) else none
  | _ => none
@[simp] theorem semA_buildSlice (t : TypeId) (n : Nat) (ps : Array (Nat × Operand)) : semA ty (.buildSlice t n ps) tm h = (ty t).bind fun d => (evps true tm ps.toList).bind fun l => bldS ty d.desc n l h := by
  simp only [semA]
  cases ty t with
  | none => rfl
  | some D =>
    simp only [Option.bind_some]
    cases hD : D.desc with
    | slice e => simp only [bldS]; cases ty e <;> cases evps true tm ps.toList <;> rfl
    | _ => cases evps true tm ps.toList <;> rfl
@[simp] theorem bldS_eq (e : TypeId) (n : Nat) (l : List (Nat × Value)) : bldS ty (.slice e) n l h = (ty e).bind fun d' => if n * d'.size ≤ 16777216 ∧ n ≤ 16777216 then (fillC (aplace d'.size) (zerosN d'.zero n) l).map fun cs => (.slice (some ⟨h.length, 0, none⟩) n n, h ++ [some (.cells cs true 0)]) else none := nd rfl
@[simp] theorem zerosN_0 (z : List Value) : zerosN z 0 = [] := nd rfl
/-! a string's bytes -/
def strS (ty : TypeId → Option TD) (src t : TypeId) (D : TypeDesc) (v : Value) (h : Heap) : Option (Value × Heap) :=
  match D with
  | .slice e => (ty e).bind fun d' => match d'.desc with
    | .int .u8 => match v with
      | .string b => some (.slice (some ⟨h.length, 0, none⟩) b.size OPEN, h ++ [some (.cells (u8s b.data.toList) true 1)])
      | .slice (some ⟨i, k, none⟩) n c => if src = t ∧ n ≠ 0 then (lendC h i).map fun h' => (.slice (some ⟨i, k, none⟩) n c, h') else none
      | _ => none
    | _ => none
  | _ => none
@[simp] theorem semA_convert (s t : TypeId) (x : Operand) : semA ty (.convert s t x) tm h = (ty s).bind fun _ => (ty t).bind fun D => (ev true tm x).bind fun v => strS ty s t D.desc v h := by
  simp only [semA]
  cases ty s with
  | none => rfl
  | some _ =>
    cases ty t with
    | none => rfl
    | some D =>
      simp only [Option.bind_some]
      cases hD : D.desc with
      | slice e =>
        simp only [strS]
        cases ty e with
        | none => cases ev true tm x <;> rfl
        | some d' =>
          simp only [Option.bind_some]
          cases hd : d'.desc with
          | int k =>
            cases k <;> cases ev true tm x with
            | none => rfl
            | some v => first | (cases v <;> rfl) | rfl
          | _ => cases ev true tm x <;> rfl
      | _ => cases ev true tm x <;> rfl
@[simp] theorem strS_slice (s t e : TypeId) (i k n c : Nat) : strS ty s t (.slice e) (.slice (some ⟨i, k, none⟩) n c) h = (ty e).bind fun d' => if byteB (some d') = true then (if s = t ∧ n ≠ 0 then (lendC h i).map fun h' => (.slice (some ⟨i, k, none⟩) n c, h') else none) else none := by
  simp only [strS, byteB]
  cases ty e with
  | none => rfl
  | some d' =>
    obtain ⟨dd, a1, a2, a3, a4⟩ := d'
    cases dd with
    | int k => cases k <;> rfl
    | _ => rfl
/-- A block, lent. -/
def lendB (h : Heap) (i : Nat) : Option Blk → Option Heap
  | some (.cells cs true u) => some (h.set i (some (.cells cs false u)))
  | _ => none
@[simp] theorem lendC_eq (i : Nat) : lendC h i = lendB h i (hget h i) := by
  unfold lendC lendB
  cases hget h i with
  | none => rfl
  | some b => cases b with
    | map _ _ => rfl
    | void _ => rfl
    | cells cs o u => cases o <;> rfl
@[simp] theorem lendB_own (i : Nat) (cs : List Value) (u : Nat) : lendB h i (some (.cells cs true u)) = some (h.set i (some (.cells cs false u))) := rfl
@[simp] theorem strS_eq (s t e : TypeId) (b : ByteArray) : strS ty s t (.slice e) (.string b) h = (ty e).bind fun d' => if byteB (some d') = true then some (.slice (some ⟨h.length, 0, none⟩) b.size OPEN, h ++ [some (.cells (u8s b.data.toList) true 1)]) else none := by
  simp only [strS, byteB]
  cases ty e with
  | none => rfl
  | some d' =>
    obtain ⟨dd, a1, a2, a3, a4⟩ := d'
    cases dd with
    | int k => cases k <;> rfl
    | _ => rfl
/-! appending, copying -/
@[simp] theorem lenC_slice (a : Option Addr) (n c : Nat) : lenC (.slice a n c) = some (.int .i64 n) := nd rfl
@[simp] theorem lenC_string (s : ByteArray) : lenC (.string s) = some (.int .i64 s.size) := nd rfl
def notInt (D : TypeDesc) : Bool :=
  match D with
  | .int _ => false
  | _ => true
@[simp] theorem notInt_slice (e : TypeId) : notInt (.slice e) = true := nd rfl
@[simp] theorem notInt_string : notInt .string = true := nd rfl
def appS (ty : TypeId → Option TD) (D D2 : TypeDesc) (x y : Value) (h : Heap) : Option (Value × Heap) :=
  match D with
  | .slice e => (ty e).bind fun d' => if notInt D2 = true then (lenC y).bind fun ny => match ny with
    | .int _ n => (rowOf d'.size h y).bind fun row => if row.length = n.toNat * d'.size then appendC d' h x n.toNat row else none
    | _ => none else none
  | _ => none
theorem evs_bind2 {α : Type} (f : Value → Value → Option α) (x y : Operand) : (evs true tm [x, y]).bind (fun l => match l with
      | x :: y :: _ => f x y
      | _ => none) = (ev true tm x).bind fun a => (ev true tm y).bind fun b => f a b := by
  simp only [evs_cons, evs_nil]
  cases ev true tm x <;> cases ev true tm y <;> rfl
@[simp] theorem semA_append (x y : Operand) (t t2 : TypeId) : semA ty (.call ⟨.builtin .append, #[x, y], #[t, t2]⟩) tm h = (ty t).bind fun D => (ty t2).bind fun D2 => (ev true tm x).bind fun a => (ev true tm y).bind fun b => appS ty D.desc D2.desc a b h := by
  simp only [semA]
  simp only [List.getElem?_toArray, List.getElem?_cons_zero, List.getElem?_cons_succ, Option.bind_some]
  cases ty t with
  | none => rfl
  | some D =>
    simp only [Option.bind_some]
    cases hD : D.desc with
    | slice e =>
      simp only [evs_cons, evs_nil]
      cases ty t2 with
      | none =>
        cases ty e <;> cases ev true tm x <;> cases ev true tm y <;> rfl
      | some D2 =>
        simp only [Option.bind_some]
        cases ev true tm x with
        | none => cases ty e <;> rfl
        | some a =>
          cases ev true tm y with
          | none => cases ty e <;> rfl
          | some b =>
            simp only [Option.bind_some, Option.map_some, appS]
            cases ty e with
            | none => rfl
            | some d' =>
              simp only [Option.bind_some]
              cases hD2 : D2.desc <;> first | rfl | (simp [notInt]; done) | (simp [notInt]; rfl)
    | _ =>
      simp only [appS]
      cases ty t2 <;> cases ev true tm x <;> cases ev true tm y <;> rfl
@[simp] theorem appS_slice (e : TypeId) (D2 : TypeDesc) (x : Value) (a : Option Addr) (n c : Nat) : appS ty (.slice e) D2 x (.slice a n c) h = (ty e).bind fun d' => if notInt D2 = true then (rowOf d'.size h (.slice a n c)).bind fun row => if row.length = n * d'.size then appendC d' h x n row else none else none := by
  simp only [appS, lenC_slice, Option.bind_some, Int.toNat_natCast]
@[simp] theorem appS_string (e : TypeId) (D2 : TypeDesc) (x : Value) (s : ByteArray) : appS ty (.slice e) D2 x (.string s) h = (ty e).bind fun d' => if notInt D2 = true then (rowOf d'.size h (.string s)).bind fun row => if row.length = s.size * d'.size then appendC d' h x s.size row else none else none := by
  simp only [appS, lenC_string, Option.bind_some, Int.toNat_natCast]
theorem appendC_nil (D : TD) (n : Nat) (xs : List Value) : appendC D h (.slice none 0 0) n xs = if (n * D.bytes ≤ 35184372088832 ∧ n ≤ 35184372088832) ∧ 0 < D.size then some (.slice (some ⟨h.length, 0, none⟩) n OPEN, h ++ [some (grown xs D.size)]) else none := by
  simp only [appendC, Nat.zero_add, true_and]
  by_cases hp : 0 < D.size <;> simp [hp]
theorem appendC_zero (D : TD) (i k n : Nat) (xs : List Value) : appendC D h (.slice (some ⟨i, k, none⟩) 0 0) n xs = if (n * D.bytes ≤ 35184372088832 ∧ n ≤ 35184372088832) ∧ 0 < D.size then some (.slice (some ⟨h.length, 0, none⟩) n OPEN, h ++ [some (grown xs D.size)]) else none := by
  simp only [appendC, Nat.zero_add, true_and]
  by_cases hp : 0 < D.size <;> simp [hp]
def appO (D : TD) (h : Heap) (i k len n : Nat) (xs : List Value) (p : List Value × Nat) : Option (Value × Heap) :=
  if k + len * D.size = p.1.length ∧ p.2 = D.size ∧ xs.all one1 = true then some (.slice (some ⟨h.length, 0, none⟩) (len + n) OPEN, h.set i none ++ [some (.cells (p.1.drop k ++ xs) true D.size)]) else none
def appG (D : TD) (h : Heap) (i k len n : Nat) (xs : List Value) (b : Option Blk) : Option (Value × Heap) :=
  match b with
  | some (.cells cs true u) => appO D h i k len n xs (cs, u)
  | some (.void u) => if len = 0 ∧ k = 0 ∧ u = D.size ∧ 0 < D.size ∧ xs.all one1 = true then some (.slice (some ⟨h.length, 0, none⟩) n OPEN, h.set i none ++ [some (grown xs D.size)]) else none
  | _ => none
@[simp] theorem appG_cells (D : TD) (i k len n : Nat) (xs cs : List Value) (u : Nat) : appG D h i k len n xs (some (.cells cs true u)) = appO D h i k len n xs (cs, u) := nd rfl
@[simp] theorem appG_grown (D : TD) (i len n : Nat) (xs cs : List Value) (u : Nat) : appG D h i 0 len n xs (some (grown cs u)) = if len * D.size = cs.length ∧ u = D.size ∧ 0 < D.size ∧ xs.all one1 = true then some (.slice (some ⟨h.length, 0, none⟩) (len + n) OPEN, h.set i none ++ [some (grown (cs ++ xs) D.size)]) else none := by
  cases cs with
  | nil =>
    simp only [grown, appG, List.length_nil, List.nil_append]
    by_cases hp : 0 < D.size
    · by_cases hl : len = 0
      · subst hl; simp [hp]
      · have : ¬ len * D.size = 0 := by intro q; rcases Nat.mul_eq_zero.1 q with q | q <;> omega
        simp [hl, this]
    · simp [hp]
  | cons c r =>
    simp only [grown, appG, appO, Nat.zero_add, List.cons_append, List.drop_zero]
    by_cases hp : 0 < D.size
    · simp [hp]
    · have h0 : D.size = 0 := by omega
      simp [h0]
theorem appendC_open (D : TD) (i k len n : Nat) (xs : List Value) : appendC D h (.slice (some ⟨i, k, none⟩) len OPEN) n xs = if (len + n) * D.bytes ≤ 35184372088832 ∧ len + n ≤ 35184372088832 then appG D h i k len n xs (hget h i) else none := by
  have h0O : ¬ OPEN = 0 := by unfold OPEN; omega
  simp only [appendC, h0O, and_false, if_false]
  split
  · cases hb : hget h i with
    | none => rfl
    | some b => cases b with
      | map _ _ => rfl
      | void u => simp [appG]
      | cells cs o u =>
        simp only [if_true]
        cases o with
        | false => rfl
        | true => rfl
  · rfl
def appN (D : TD) (h : Heap) (i k len cap n : Nat) (xs cs : List Value) : Option (Value × Heap) :=
  if len + n ≤ cap then (if n = 0 then some (.slice (some ⟨i, k, none⟩) len cap, h) else none)
  else (slc cs k (len * D.size)).map fun old => (.slice (some ⟨h.length, 0, none⟩) (len + n) OPEN, h ++ [some (.cells (old ++ xs) true D.size)])
def cellsO (b : Option Blk) : Option (List Value) :=
  match b with
  | some (.cells cs _ _) => some cs
  | _ => none
@[simp] theorem cellsO_eq (cs : List Value) (o : Bool) (u : Nat) : cellsO (some (.cells cs o u)) = some cs := nd rfl
theorem appendC_cap (D : TD) (i k len cap n : Nat) (xs : List Value) (hc : cap ≠ OPEN) (hz : cap ≠ 0) : appendC D h (.slice (some ⟨i, k, none⟩) len cap) n xs = if (len + n) * D.bytes ≤ 35184372088832 ∧ len + n ≤ 35184372088832 then (cellsO (hget h i)).bind (appN D h i k len cap n xs) else none := by
  have h00 : ¬ (len = 0 ∧ cap = 0) := fun q => hz q.2
  simp only [appendC, h00, if_false]
  split
  · cases hb : hget h i with
    | none => rfl
    | some b => cases b with
      | map _ _ => rfl
      | void _ => simp [cellsO, hc]
      | cells cs o u =>
        simp only [cellsO_eq, Option.bind_some, appN]
  · rfl
/-- What is appended, one way or the other. -/
def appV (D : TD) (h : Heap) (a : Option Addr) (len cap n : Nat) (xs : List Value) : Option (Value × Heap) := appendC D h (.slice a len cap) n xs
@[simp] theorem appendC_eq (D : TD) (a : Option Addr) (len cap n : Nat) (xs : List Value) : appendC D h (.slice a len cap) n xs = appV D h a len cap n xs := nd rfl
@[simp] theorem appV_nil (D : TD) (n : Nat) (xs : List Value) : appV D h none 0 0 n xs = if (n * D.bytes ≤ 35184372088832 ∧ n ≤ 35184372088832) ∧ 0 < D.size then some (.slice (some ⟨h.length, 0, none⟩) n OPEN, h ++ [some (grown xs D.size)]) else none := appendC_nil h D n xs
@[simp] theorem appV_zero (D : TD) (i k n : Nat) (xs : List Value) : appV D h (some ⟨i, k, none⟩) 0 0 n xs = if (n * D.bytes ≤ 35184372088832 ∧ n ≤ 35184372088832) ∧ 0 < D.size then some (.slice (some ⟨h.length, 0, none⟩) n OPEN, h ++ [some (grown xs D.size)]) else none := appendC_zero h D i k n xs
@[simp] theorem appV_open (D : TD) (i k len n : Nat) (xs : List Value) : appV D h (some ⟨i, k, none⟩) len OPEN n xs = if (len + n) * D.bytes ≤ 35184372088832 ∧ len + n ≤ 35184372088832 then appG D h i k len n xs (hget h i) else none := appendC_open h D i k len n xs
theorem appV_cap (D : TD) (i k len cap n : Nat) (xs : List Value) (hc : cap ≠ OPEN) (hz : cap ≠ 0) : appV D h (some ⟨i, k, none⟩) len cap n xs = if (len + n) * D.bytes ≤ 35184372088832 ∧ len + n ≤ 35184372088832 then (cellsO (hget h i)).bind (appN D h i k len cap n xs) else none := appendC_cap h D i k len cap n xs hc hz
@[simp] theorem appO_eq (D : TD) (i k len n : Nat) (xs cs : List Value) (u : Nat) : appO D h i k len n xs (cs, u) = if k + len * D.size = cs.length ∧ u = D.size ∧ xs.all one1 = true then some (.slice (some ⟨h.length, 0, none⟩) (len + n) OPEN, h.set i none ++ [some (.cells (cs.drop k ++ xs) true D.size)]) else none := nd rfl
@[simp] theorem appN_eq (D : TD) (i k len cap n : Nat) (xs cs : List Value) : appN D h i k len cap n xs cs = if len + n ≤ cap then (if n = 0 then some (.slice (some ⟨i, k, none⟩) len cap, h) else none)
  else (slc cs k (len * D.size)).map fun old => (.slice (some ⟨h.length, 0, none⟩) (len + n) OPEN, h ++ [some (.cells (old ++ xs) true D.size)]) := nd rfl
def cpyS (ty : TypeId → Option TD) (D : TypeDesc) (x y : Value) (h : Heap) : Option (Value × Heap) :=
  match D with
  | .slice e => (ty e).bind fun d' => copyC d' h x y
  | _ => none
@[simp] theorem semA_copy (x y : Operand) (t t2 : TypeId) : semA ty (.call ⟨.builtin .copy, #[x, y], #[t, t2]⟩) tm h = (ty t).bind fun D => (ev true tm x).bind fun a => (ev true tm y).bind fun b => cpyS ty D.desc a b h := by
  simp only [semA]
  simp only [List.getElem?_toArray, List.getElem?_cons_zero, Option.bind_some]
  cases ty t with
  | none => rfl
  | some D =>
    simp only [Option.bind_some]
    cases hD : D.desc with
    | slice e =>
      simp only [evs_cons, evs_nil, cpyS]
      cases ev true tm x <;> cases ev true tm y <;> cases ty e <;> rfl
    | _ => cases ev true tm x <;> cases ev true tm y <;> rfl
@[simp] theorem cpyS_eq (e : TypeId) (x y : Value) : cpyS ty (.slice e) x y h = (ty e).bind fun d' => copyC d' h x y := nd rfl
def cpyP (D : TD) (h : Heap) (i k len n : Nat) (row : List Value) (p : List Value × Nat) : Option (Value × Heap) :=
  if k + (min n len) * D.size ≤ p.1.length ∧ (row.take ((min n len) * D.size)).all one1 = true ∧ row.length = n * D.size then some (.int .i64 (min n len : Nat), h.set i (some (.cells (setL p.1 k (row.take ((min n len) * D.size))) true p.2))) else none
def cpyR (D : TD) (h : Heap) (a : Option Addr) (len n : Nat) (row : List Value) : Option (Value × Heap) :=
  match a with
  | none => if len = 0 then some (.int .i64 0, h) else none
  | some ⟨i, k, none⟩ => (ownB (hget h i)).bind (cpyP D h i k len n row)
  | _ => none
theorem copyC_row (D : TD) (a : Option Addr) (len cap n : Nat) (y : Value) (hn : lenC y = some (.int .i64 n)) : copyC D h (.slice a len cap) y = (rowOf D.size h y).bind (cpyR D h a len n) := by
  simp only [copyC, hn, Option.bind_some, Int.toNat_natCast]
  congr 1
  funext row
  cases a with
  | none => rfl
  | some a =>
    obtain ⟨i, k, sp⟩ := a
    cases sp with
    | some _ => rfl
    | none =>
      simp only [cpyR]
      cases hget h i with
      | none => rfl
      | some b => cases b with
        | map _ _ => rfl
        | void _ => rfl
        | cells cs o u => cases o <;> rfl
@[simp] theorem copyC_slice (D : TD) (a : Option Addr) (len cap : Nat) (b : Option Addr) (n c : Nat) : copyC D h (.slice a len cap) (.slice b n c) = (rowOf D.size h (.slice b n c)).bind (cpyR D h a len n) := copyC_row h D a len cap n _ rfl
@[simp] theorem copyC_string (D : TD) (a : Option Addr) (len cap : Nat) (s : ByteArray) : copyC D h (.slice a len cap) (.string s) = (rowOf D.size h (.string s)).bind (cpyR D h a len s.size) := copyC_row h D a len cap _ _ rfl
@[simp] theorem cpyR_none (D : TD) (len n : Nat) (row : List Value) : cpyR D h none len n row = if len = 0 then some (.int .i64 0, h) else none := nd rfl
@[simp] theorem cpyR_some (D : TD) (i k len n : Nat) (row : List Value) : cpyR D h (some ⟨i, k, none⟩) len n row = (ownB (hget h i)).bind (cpyP D h i k len n row) := nd rfl
@[simp] theorem cpyP_eq (D : TD) (i k len n : Nat) (row cs : List Value) (u : Nat) : cpyP D h i k len n row (cs, u) = if k + (min n len) * D.size ≤ cs.length ∧ (row.take ((min n len) * D.size)).all one1 = true ∧ row.length = n * D.size then some (.int .i64 (min n len : Nat), h.set i (some (.cells (setL cs k (row.take ((min n len) * D.size))) true u))) else none := nd rfl
end
attribute [simp] u8s_one1
end Go.Sx
end
