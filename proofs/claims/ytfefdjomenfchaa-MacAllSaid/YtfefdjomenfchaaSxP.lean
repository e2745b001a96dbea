/-
  Sx, part P: regions whose order is drawn. Own words; no condition.
-/
import Derived.Test.YtfefdjomenfchaaSxN
namespace Go.Sx
open Go
variable {P : Program} {ty : TypeId → Option TD} {N : Nat}

/-! ### Slots that are looked up alike -/
theorem ev_congr {γ : Bool} {s s' : List (Nat × Ent)} {x : Operand} (h : ∀ t, x = .tmp t → lk s t = lk s' t) : ev γ s x = ev γ s' x := by
  cases x with
  | tmp t => simp only [ev, h t rfl]
  | _ => rfl
theorem all2_map_congr {α β : Type} {f g : α → Option β} : ∀ {l : List α}, (∀ x ∈ l, f x = g x) → all2 (l.map f) = all2 (l.map g)
  | [], _ => rfl
  | x :: l, h => by simp only [List.map_cons, all2, h x (by simp), all2_map_congr (l := l) fun y hy => h y (by simp [hy])]
theorem evs_congr {γ : Bool} {s s' : List (Nat × Ent)} {xs : List Operand} (h : ∀ x ∈ xs, ∀ t, x = .tmp t → lk s t = lk s' t) : evs γ s xs = evs γ s' xs :=
  all2_map_congr fun x hx => ev_congr (h x hx)
theorem evps_congr {γ : Bool} {s s' : List (Nat × Ent)} {xs : List (Nat × Operand)} (h : ∀ p ∈ xs, ∀ t, p.2 = .tmp t → lk s t = lk s' t) : evps γ s xs = evps γ s' xs :=
  all2_map_congr fun x hx => by rw [ev_congr (h x hx)]
theorem evo_congr {γ : Bool} {s s' : List (Nat × Ent)} {x : Option Operand} (h : ∀ y, x = some y → ∀ t, y = .tmp t → lk s t = lk s' t) : evo γ s x = evo γ s' x := by
  cases x with
  | none => rfl
  | some y => simp only [evo, ev_congr (h y rfl)]
/-- What an operation looks at is alike. -/
def Alike (s s' : List (Nat × Ent)) (o : Op) : Prop := ∀ t, .tmp t ∈ o.operands → lk s t = lk s' t
theorem semP_congr {γ : Bool} {s s' : List (Nat × Ent)} {o : Op} (h : Alike s s' o) (hp : Heap) : semP ty γ o s hp = semP ty γ o s' hp := by
  have e1 : ∀ (γ : Bool) x, x ∈ o.operands → ev γ s x = ev γ s' x := fun γ x hx => ev_congr fun t ht => h t (ht ▸ hx)
  have e2 : ∀ (γ : Bool) (xs : List Operand), (∀ x ∈ xs, x ∈ o.operands) → evs γ s xs = evs γ s' xs := fun γ xs hx => evs_congr fun x hm t ht => h t (ht ▸ hx x hm)
  have e3 : ∀ (γ : Bool) (xs : List (Nat × Operand)), (∀ p ∈ xs, p.2 ∈ o.operands) → evps γ s xs = evps γ s' xs := fun γ xs hx => evps_congr fun x hm t ht => h t (ht ▸ hx x hm)
  have e4 : ∀ (γ : Bool) (x : Option Operand), (∀ y, x = some y → y ∈ o.operands) → evo γ s x = evo γ s' x := fun γ x hx => evo_congr fun y hy t ht => h t (ht ▸ hx y hy)
  cases o with
  | build t ps => simp only [semP]; rw [e3 γ ps.toList fun p hp => by simp only [Op.operands]; exact List.mem_toArray.2 (List.mem_map.2 ⟨p, hp, rfl⟩)]
  | makeFunc fn first captured =>
    simp only [semP]
    rw [e2 γ first.toList fun x hx => by simp only [Op.operands, Array.mem_append]; exact .inl (by simpa using hx), e2 γ captured.toList fun x hx => by simp only [Op.operands, Array.mem_append]; exact .inr (by simpa using hx)]
  | slice t x lo hi mx =>
    simp only [semP]
    rw [e1 γ x (by simp [Op.operands]), e4 γ lo fun y hy => by subst hy; simp [Op.operands], e4 γ hi fun y hy => by subst hy; simp [Op.operands], e4 γ mx fun y hy => by subst hy; simp [Op.operands]]
  | call c =>
    obtain ⟨cl, args, ats⟩ := c
    cases cl with
    | builtin b => simp only [semP]; rw [e2 γ args.toList fun x hx => by simp [Op.operands, Call.operands]; simpa using hx]
    | _ => rfl
  | pick c a b => simp only [semP]; rw [e1 γ c (by simp [Op.operands])]; congr 1; funext v; cases v <;> simp only; rw [e1 _ a (by simp [Op.operands]), e1 _ b (by simp [Op.operands])]
  | binOp op t x y p => simp only [semP]; rw [e1 γ x (by simp [Op.operands]), e1 γ y (by simp [Op.operands])]
  | indexAddr t x y => simp only [semP]; rw [e1 γ x (by simp [Op.operands]), e1 γ y (by simp [Op.operands])]
  | index t x y => simp only [semP]; rw [e1 γ x (by simp [Op.operands]), e1 γ y (by simp [Op.operands])]
  | move x => simp only [semP]; rw [e1 γ x (by simp [Op.operands])]
  | assign x => simp only [semP]; rw [e1 γ x (by simp [Op.operands])]
  | load t x => simp only [semP]; rw [e1 γ x (by simp [Op.operands])]
  | nilCheck x => simp only [semP]; rw [e1 γ x (by simp [Op.operands])]
  | unOp op t x => simp only [semP]; rw [e1 γ x (by simp [Op.operands])]
  | convert s t x => simp only [semP]; rw [e1 γ x (by simp [Op.operands])]
  | sliceToArrayPointer t x => simp only [semP]; rw [e1 γ x (by simp [Op.operands])]
  | makeInterface t x => simp only [semP]; rw [e1 γ x (by simp [Op.operands])]
  | fieldAddr t x f => simp only [semP]; rw [e1 γ x (by simp [Op.operands])]
  | field t x f => simp only [semP]; rw [e1 γ x (by simp [Op.operands])]
  | extract x f => simp only [semP]; rw [e1 γ x (by simp [Op.operands])]
  | _ => rfl
theorem semA_congr {s s' : List (Nat × Ent)} {o : Op} (h : Alike s s' o) (hp : Heap) : semA ty o s hp = semA ty o s' hp := by
  have e1 : ∀ (γ : Bool) x, x ∈ o.operands → ev γ s x = ev γ s' x := fun γ x hx => ev_congr fun t ht => h t (ht ▸ hx)
  have e2 : ∀ (γ : Bool) (xs : List Operand), (∀ x ∈ xs, x ∈ o.operands) → evs γ s xs = evs γ s' xs := fun γ xs hx => evs_congr fun x hm t ht => h t (ht ▸ hx x hm)
  have e3 : ∀ (γ : Bool) (xs : List (Nat × Operand)), (∀ p ∈ xs, p.2 ∈ o.operands) → evps γ s xs = evps γ s' xs := fun γ xs hx => evps_congr fun x hm t ht => h t (ht ▸ hx x hm)
  cases o with
  | box t x => simp only [semA]; rw [e1 true x (by simp [Op.operands])]
  | buildSlice t n ps => simp only [semA]; rw [e3 true ps.toList fun p hp => by simp only [Op.operands]; exact List.mem_toArray.2 (List.mem_map.2 ⟨p, hp, rfl⟩)]
  | makeSlice t l c => simp only [semA]; rw [e1 true l (by simp [Op.operands]), e1 true c (by simp [Op.operands])]
  | convert s t x => simp only [semA]; rw [e1 true x (by simp [Op.operands])]
  | store t x y => simp only [semA]; rw [e1 true x (by simp [Op.operands]), e1 true y (by simp [Op.operands])]
  | call c =>
    obtain ⟨cl, args, ats⟩ := c
    have ha : evs true s args.toList = evs true s' args.toList := e2 true args.toList fun x hx => by simp only [Op.operands, Call.operands]; exact Array.mem_append.2 (.inr (by simpa using hx))
    simp only [semA]; rw [ha]
  | _ => rfl
theorem callee_congr {s s' : List (Nat × Ent)} {o : Op} (h : Alike s s' o) : callee s o = callee s' o := by
  have e1 : ∀ (γ : Bool) x, x ∈ o.operands → ev γ s x = ev γ s' x := fun γ x hx => ev_congr fun t ht => h t (ht ▸ hx)
  have e2 : ∀ (γ : Bool) (xs : List Operand), (∀ x ∈ xs, x ∈ o.operands) → evs γ s xs = evs γ s' xs := fun γ xs hx => evs_congr fun x hm t ht => h t (ht ▸ hx x hm)
  cases o with
  | call c =>
    obtain ⟨cl, args, ats⟩ := c
    cases cl with
    | value f => simp only [callee]; rw [e1 true f (by simp [Op.operands, Call.operands]), e2 true args.toList fun x hx => by simp only [Op.operands, Call.operands]; exact Array.mem_append.2 (.inr (by simpa using hx))]
    | _ => rfl
  | _ => rfl

noncomputable section
/-- What a quiet operation leaves in its slot. -/
def softV (ty : TypeId → Option TD) (N : Nat) (all : List Oper) (o : Oper) (tm : List (Nat × Ent)) (h : Heap) : Option Ent :=
  match dstOk N o with
  | false => none
  | true => match semA ty o.op tm h with
    | some _ => none
    | none => match o.guard with
      | none => (semP ty true o.op tm h).map .v
      | some g => (guardC all tm g).bind fun γ => match semP ty γ o.op tm h with
        | some v => some (.g γ v)
        | none => if γ = true then none else some (.v undef)
end
theorem callee_isP {tm : List (Nat × Ent)} {o : Op} (h : isP o = true) : callee tm o = none := by
  cases o with
  | call c =>
    obtain ⟨cl, args, ats⟩ := c
    cases cl with
    | builtin b => rfl
    | _ => simp [isP] at h
  | _ => rfl
theorem step_soft {all : List Oper} {o : Oper} {tm : List (Nat × Ent)} {h : Heap} {e : Ent} (hp : isP o.op = true) (he : softV ty N all o tm h = some e) {K : St → Prop} (hk : K ⟨put o.dst e tm, h⟩) : stepC P ty N all o K ⟨tm, h⟩ := by
  unfold softV at he
  unfold stepC
  cases hd : dstOk N o with
  | false => simp [hd] at he
  | true =>
    simp only [hd] at he ⊢
    split at he
    · simp at he
    · rename_i hA
      cases hg : o.guard with
      | none =>
        simp only [hg, Option.map_eq_some_iff] at he ⊢
        obtain ⟨v, hv, rfl⟩ := he
        unfold exec
        simp only [callee_isP hp, hA, hv]
        exact hk
      | some g =>
        simp only [hg, Option.bind_eq_some_iff] at he ⊢
        obtain ⟨γ, hγ, he⟩ := he
        simp only [hγ]
        unfold guarded
        simp only [hp]
        split at he
        · rename_i v hv
          simp at he; subst he
          simp only [hv]; exact hk
        · rename_i hv
          simp only [hv]
          split at he
          · simp at he
          · rename_i hn
            simp at he; subst he
            rw [if_neg hn]; exact hk
theorem guardC_congr {all : List Oper} {s s' : List (Nat × Ent)} {g : Nat × Bool} (h : ∀ t, ((all[g.1]?).bind fun o => o.dst) = some t → lk s t = lk s' t) : guardC all s g = guardC all s' g := by
  unfold guardC
  cases hd : ((all[g.1]?).bind fun o => o.dst) with
  | none => rfl
  | some t => simp only [Option.bind_some, h t hd]
/-- What an operation and its guard look at is alike. -/
def Alike' (all : List Oper) (s s' : List (Nat × Ent)) (o : Oper) : Prop := Alike s s' o.op ∧ ∀ g, o.guard = some g → ∀ t, ((all[g.1]?).bind fun o => o.dst) = some t → lk s t = lk s' t
theorem softV_congr {all : List Oper} {s s' : List (Nat × Ent)} {o : Oper} (h : Alike' all s s' o) (hp : Heap) : softV ty N all o s hp = softV ty N all o s' hp := by
  unfold softV
  rw [semA_congr h.1 hp]
  have e : ∀ γ, semP ty γ o.op s hp = semP ty γ o.op s' hp := fun γ => semP_congr h.1 hp
  cases hg : o.guard with
  | none => simp only [e]
  | some g => simp only [e, guardC_congr (h.2 g hg)]
theorem exec_congr {s s' : List (Nat × Ent)} {o : Oper} (h : Alike s s' o.op) {hp : Heap} {K : St → Prop} (q : exec P ty o K ⟨s, hp⟩) :
    exec P ty o (fun z => ∃ u h', z = ⟨put o.dst u s', h'⟩ ∧ K ⟨put o.dst u s, h'⟩) ⟨s', hp⟩ := by
  unfold exec at *
  simp only at *
  rw [← callee_congr h, ← semA_congr h, ← semP_congr h]
  split at q
  · rename_i f args hc
    exact CallK.of q fun v h' hk => ⟨_, _, rfl, hk⟩
  · split at q
    · exact ⟨_, _, rfl, q⟩
    · split at q
      · exact ⟨_, _, rfl, q⟩
      · exact q.elim
theorem step_congr {all : List Oper} {s s' : List (Nat × Ent)} {o : Oper} (h : Alike' all s s' o) {hp : Heap} {K : St → Prop} (q : stepC P ty N all o K ⟨s, hp⟩) :
    stepC P ty N all o (fun z => ∃ u h', z = ⟨put o.dst u s', h'⟩ ∧ K ⟨put o.dst u s, h'⟩) ⟨s', hp⟩ := by
  unfold stepC at *
  split at q
  · rename_i hd
    simp only
    cases hg : o.guard with
    | none => simp only [hg] at q ⊢; exact exec_congr h.1 q
    | some g =>
      simp only [hg] at q ⊢
      rw [← guardC_congr (h.2 g hg)]
      split at q
      · rename_i γ hγ
        unfold guarded at *
        simp only at *
        rw [← semP_congr h.1]
        split at q
        · split at q
          · exact ⟨_, _, rfl, q⟩
          · rename_i hv
            split at q
            · exact q.elim
            · rename_i hn; rw [if_neg hn]; exact ⟨_, _, rfl, q⟩
        · split at q
          · exact exec_congr h.1 q
          · exact ⟨_, _, rfl, q⟩
      · exact q.elim
  · exact q.elim
theorem exec_mono {o : Oper} {s : St} {K K' : St → Prop} (hk : ∀ s, K s → K' s) (q : exec P ty o K s) : exec P ty o K' s := by
  unfold exec at *
  split at q
  · exact CallK.of q fun v h' h => hk _ h
  · split at q
    · exact hk _ q
    · split at q
      · exact hk _ q
      · exact q.elim
theorem step_mono {all : List Oper} {o : Oper} {s : St} {K K' : St → Prop} (hk : ∀ s, K s → K' s) (q : stepC P ty N all o K s) : stepC P ty N all o K' s := by
  unfold stepC at *
  split at q
  · split at q
    · exact exec_mono hk q
    · split at q
      · unfold guarded at *
        split at q
        · split at q
          · exact hk _ q
          · split at q
            · exact q.elim
            · rename_i hn; rw [if_neg hn]; exact hk _ q
        · split at q
          · exact exec_mono hk q
          · exact hk _ q
      · exact q.elim
  · exact q.elim
theorem lk_put (d : Option Tmp) (e : Ent) (tm : List (Nat × Ent)) (t : Nat) : lk (put d e tm) t = if d = some t then some e else lk tm t := by
  cases d with
  | none => simp [put]
  | some u => simp [put, lk]

/-! ### Every order -/
section
variable (P : Program) (ty : TypeId → Option TD) (N : Nat) (ops : Array Oper)
/-- Whatever order is drawn: S holds behind each operation, K in the end. -/
def DW (S : Heap → Prop) (K : St → Prop) : Nat → Array Bool → St → Prop
  | 0, listed, s => Region.ready .any ops listed = [] ∧ K s
  | fuel + 1, listed, s => (Region.ready .any ops listed = [] → K s) ∧
    ∀ i ∈ Region.ready .any ops listed, ∀ o, ops[i]? = some o → stepC P ty N ops.toList o (fun s' => S s'.h ∧ DW S K fuel (listed.setIfInBounds i true) s') s
end
variable {ops : Array Oper}
theorem DW.mono {S S' : Heap → Prop} (hS : ∀ h, S h → S' h) {K : St → Prop} : ∀ {fuel : Nat} {listed : Array Bool} {s : St}, DW P ty N ops S K fuel listed s → DW P ty N ops S' K fuel listed s
  | 0, _, _, h => h
  | _ + 1, _, _, ⟨h1, h2⟩ => ⟨h1, fun i hi o ho => step_mono (fun _ ⟨a, b⟩ => ⟨hS _ a, DW.mono hS b⟩) (h2 i hi o ho)⟩
/-- K looks at slots by their numbers alone. -/
def ByNumber (K : St → Prop) : Prop := ∀ tm tm' h, (∀ t, lk tm t = lk tm' t) → K ⟨tm, h⟩ → K ⟨tm', h⟩
theorem DW.congr {S : Heap → Prop} {K : St → Prop} (hK : ByNumber K) : ∀ {fuel : Nat} {listed : Array Bool} {tm tm' : List (Nat × Ent)} {h : Heap}, (∀ t, lk tm t = lk tm' t) → DW P ty N ops S K fuel listed ⟨tm, h⟩ → DW P ty N ops S K fuel listed ⟨tm', h⟩
  | 0, _, _, _, _, e, h => ⟨h.1, hK _ _ _ e h.2⟩
  | _ + 1, _, _, _, _, e, ⟨h1, h2⟩ => ⟨fun h0 => hK _ _ _ e (h1 h0), fun i hi o ho => by
      refine step_mono ?_ (step_congr (s' := _) ⟨fun t _ => e t, fun _ _ t _ => e t⟩ (h2 i hi o ho))
      rintro z ⟨u, h', rfl, a, b⟩
      exact ⟨a, DW.congr hK (fun t => by rw [lk_put, lk_put, e t]) b⟩⟩
theorem dw_sound (T : TyOk P ty) {S : Heap → Prop} {K : St → Prop} {Q : Exit → Act → World → Prop} : ∀ {fuel : Nat} {listed : Array Bool} {s : St} {ι : List Place} {a : Act} {w : World}, Like ι s N a w → DW P ty N ops S K fuel listed s →
    (∀ a' w', Goes ι s.h w N K a' w' → Q .normal a' w') → wpAny P .any ops Q fuel listed a w
  | 0, _, s, ι, a, w, L, h, hQ => ⟨h.1, hQ _ _ ⟨ι, s, h.2, L, .refl _ _ _⟩⟩
  | fuel + 1, listed, s, ι, a, w, L, h, hQ => by
    refine ⟨fun h0 => hQ _ _ ⟨ι, s, h.1 h0, L, .refl _ _ _⟩, fun i hi => ?_⟩
    obtain ⟨_, o, ho, _⟩ := mem_ready.1 hi
    have hs := step_sound T L (all := ops.toList) rfl (h.2 i hi o ho) Q
    have next : ∀ a' w', Goes ι s.h w N (fun s' => S s'.h ∧ DW P ty N ops S K fuel (listed.setIfInBounds i true) s') a' w' → wpAny P .any ops Q fuel (listed.setIfInBounds i true) a' w' := by
      rintro a' w' ⟨κ, s', ⟨_, hk⟩, L', g⟩
      exact dw_sound T L' hk fun a'' w'' q => hQ a'' w'' (Goes.trans g q)
    unfold wpOp
    simp only [ho]
    split
    · rename_i hw; rw [if_pos hw] at hs; exact .inl (Oper.wp_mono next hs)
    · rename_i hw; rw [if_neg hw] at hs; exact next _ _ hs
theorem looks_op {o : Oper} {t : Nat} (h : .tmp t ∈ o.op.operands) : t ∈ o.looksAt ops :=
  List.mem_append_left _ (List.mem_filterMap.2 ⟨.tmp t, by simpa using h, rfl⟩)
theorem looks_guard {o : Oper} {g : Nat × Bool} (hg : o.guard = some g) {t : Nat} (h : ((ops.toList[g.1]?).bind fun o => o.dst) = some t) : t ∈ o.looksAt ops := by
  obtain ⟨j, b⟩ := g
  rw [Array.getElem?_toList] at h
  simp [Oper.looksAt, hg, h]
theorem alike_put {o : Oper} {d : Option Tmp} {e : Ent} {tm : List (Nat × Ent)} (h : ∀ t, d = some t → t ∉ o.looksAt ops) : Alike' ops.toList (put d e tm) tm o := by
  refine ⟨fun t ht => ?_, fun g hg t ht => ?_⟩
  · rw [lk_put, if_neg fun hd => h t hd (looks_op ht)]
  · rw [lk_put, if_neg fun hd => h t hd (looks_guard hg ht)]
theorem Alike'.symm {all : List Oper} {s s' : List (Nat × Ent)} {o : Oper} (h : Alike' all s s' o) : Alike' all s' s o := ⟨fun t ht => (h.1 t ht).symm, fun g hg t ht => (h.2 g hg t ht).symm⟩
/-- A quiet operation may come first. -/
theorem dw_first {S : Heap → Prop} {K : St → Prop} (hK : ByNumber K) {i : Nat} {oi : Oper} (hi : ops[i]? = some oi) (hq : isP oi.op = true) : ∀ (fuel : Nat) (listed : Array Bool) (tm : List (Nat × Ent)) (h : Heap) (e : Ent),
    (∀ j oj, ops[j]? = some oj → j ≠ i → listed.getD j true = false → (∀ e ∈ oj.after, Region.binds .any e = true → e.on ≠ i) → oi.apart ops oj = true) →
    i ∈ Region.ready .any ops listed → (∀ h', S h' → softV ty N ops.toList oi tm h' = some e) → S h →
    DW P ty N ops S K fuel (listed.setIfInBounds i true) ⟨put oi.dst e tm, h⟩ → DW P ty N ops S K (fuel + 1) listed ⟨tm, h⟩ := by
  intro fuel
  induction fuel with
  | zero =>
    intro listed tm h e _ hr hs hS H
    refine ⟨fun h0 => (by rw [h0] at hr; cases hr), fun j hj o ho => ?_⟩
    by_cases hji : j = i
    · subst hji
      rw [hi] at ho; cases ho
      exact step_soft hq (hs h hS) ⟨hS, H⟩
    · have := ready_mono hj hji
      rw [H.1] at this
      cases this
  | succ fuel ih =>
    intro listed tm h e hfree hr hs hS H
    refine ⟨fun h0 => (by rw [h0] at hr; cases hr), fun j hj oj hoj => ?_⟩
    by_cases hji : j = i
    · subst hji
      rw [hi] at hoj; cases hoj
      exact step_soft hq (hs h hS) ⟨hS, H⟩
    · have h1 := H.2 j (ready_mono hj hji) oj hoj
      obtain ⟨hjun, oj', hoj', hall⟩ := mem_ready.1 hj
      rw [hoj] at hoj'; cases hoj'
      have hnot : ∀ e ∈ oj.after, Region.binds .any e = true → e.on ≠ i := fun e he hb heq => by
        have h1 := hall e he hb
        have h0 := (mem_ready.1 hr).1
        rw [heq] at h1
        rcases Nat.lt_or_ge i listed.size with h' | h'
        · simp [h'] at h0 h1; rw [h0] at h1; cases h1
        · simp [Array.getElem?_eq_none h'] at h1
      obtain ⟨a1, a2, a3⟩ := Oper.apart_spec (hfree j oj hoj hji hjun hnot)
      have hfree' : ∀ k ok, ops[k]? = some ok → k ≠ i → (listed.setIfInBounds j true).getD k true = false →
          (∀ e ∈ ok.after, Region.binds .any e = true → e.on ≠ i) → oi.apart ops ok = true := fun k ok hk hki hun hno => by
        refine hfree k ok hk hki ?_ hno
        by_cases hjk : j = k
        · subst hjk; exact hjun
        · rw [getD_set_ne true hjk] at hun; exact hun
      refine step_mono ?_ (step_congr (alike_put a1) h1)
      rintro z ⟨u, h', rfl, hS', hd⟩
      refine ⟨hS', ih _ _ _ e hfree' (ready_mono hr (Ne.symm hji)) (fun h'' hh => ?_) hS' ?_⟩
      · rw [softV_congr (alike_put (ops := ops) a3)]; exact hs h'' hh
      · rw [Array.setIfInBounds_comm _ _ hji]
        refine DW.congr hK (fun t => ?_) hd
        simp only [lk_put]
        by_cases h1 : oj.dst = some t
        · rw [if_pos h1, if_neg fun h2 => a2 t h2 h1, if_pos h1]
        · rw [if_neg h1, if_neg h1]

/-! ### A plan: which one is taken next -/
/-- stop: nothing more. soft: a quiet one first. alt: whichever of those comes up. -/
inductive Plan where
  | stop
  | soft (i : Nat) (r : Plan)
  | alt (i : Nat) (r : Plan) (others : Plan)
def Plan.heads : Plan → List Nat
  | .alt i _ o => i :: o.heads
  | _ => []
def Plan.ok (ops : Array Oper) : Plan → Bool → Nat → Array Bool → Bool
  | .stop, true, _, listed => (Region.ready .any ops listed).isEmpty
  | .stop, false, _, _ => true
  | .soft _ _, true, 0, _ => false
  | .soft i r, true, fuel + 1, listed => (Region.ready .any ops listed).contains i && Region.free .any ops listed i && (match ops[i]? with | some o => isP o.op | none => false) && r.ok ops true fuel (listed.setIfInBounds i true)
  | .soft _ _, false, _, _ => false
  | .alt _ _ _, _, 0, _ => false
  | .alt i r o, b, fuel + 1, listed => (!b || ((Region.ready .any ops listed).contains i && (Region.ready .any ops listed).all fun k => (i :: o.heads).contains k)) && r.ok ops true fuel (listed.setIfInBounds i true) && o.ok ops false (fuel + 1) listed
/-- Operations whose answer asks nothing of the heap. -/
def still (o : Op) : Bool :=
  match o with
  | .move _ | .assign _ | .pick .. | .build .. | .binOp .. | .unOp .. | .makeInterface .. | .makeFunc .. | .fieldAddr .. | .field .. | .indexAddr .. | .index .. | .extract .. => true
  | .call c => match c.callee with
    | .builtin .len => true
    | .builtin .min => true
    | .builtin .max => true
    | _ => false
  | _ => false
noncomputable section
/-- The walk by a plan. -/
def pops (P : Program) (ty : TypeId → Option TD) (N : Nat) (all : List Oper) (K : St → Prop) : Plan → Bool → (Heap → Prop) → St → Prop
  | .stop, true, _, s => K s
  | .stop, false, _, _ => True
  | .soft i r, _, S, s => match all[i]? with
    | some o => match softV ty N all o s.tm s.h with
      | some e => match still o.op with
        | true => pops P ty N all K r true S ⟨put o.dst e s.tm, s.h⟩
        | false => pops P ty N all K r true (fun h => S h ∧ softV ty N all o s.tm h = some e) ⟨put o.dst e s.tm, s.h⟩
      | none => False
    | none => False
  | .alt i r o, _, S, s => (match all[i]? with
    | some op => stepC P ty N all op (fun s' => S s'.h ∧ pops P ty N all K r true S s') s
    | none => False) ∧ pops P ty N all K o false S s
end
theorem semA_still {o : Op} (h : still o = true) (tm : List (Nat × Ent)) (hp : Heap) : semA ty o tm hp = none := by
  cases o with
  | call c =>
    obtain ⟨cl, args, ats⟩ := c
    cases cl with
    | builtin b => cases b <;> first | (simp [still] at h; done) | rfl
    | _ => simp [still] at h
  | _ => first | (simp [still] at h; done) | rfl
theorem semP_still {γ : Bool} {o : Op} (h : still o = true) (tm : List (Nat × Ent)) (hp hp' : Heap) : semP ty γ o tm hp = semP ty γ o tm hp' := by
  cases o with
  | call c =>
    obtain ⟨cl, args, ats⟩ := c
    cases cl with
    | builtin b => cases b <;> first | (simp [still] at h; done) | rfl
    | _ => simp [still] at h
  | _ => first | (simp [still] at h; done) | rfl
theorem softV_still {all : List Oper} {o : Oper} (h : still o.op = true) (tm : List (Nat × Ent)) (hp hp' : Heap) : softV ty N all o tm hp = softV ty N all o tm hp' := by
  have e1 : semA ty o.op tm hp = semA ty o.op tm hp' := by rw [semA_still h, semA_still h]
  have e : ∀ γ, semP ty γ o.op tm hp = semP ty γ o.op tm hp' := fun γ => semP_still h tm hp hp'
  unfold softV
  rw [e1]
  cases hg : o.guard with
  | none => simp only [e]
  | some g => simp only [e]
theorem pops_sound {K : St → Prop} (hK : ByNumber K) (hs : Region.noSelect ops = true) : ∀ (p : Plan) (b : Bool) (fuel : Nat) (listed : Array Bool) (S : Heap → Prop) (s : St), p.ok ops b fuel listed = true → S s.h → pops P ty N ops.toList K p b S s →
    (b = true → DW P ty N ops S K fuel listed s) ∧ ∀ i ∈ p.heads, ∀ o, ops[i]? = some o → ∃ f, fuel = f + 1 ∧ stepC P ty N ops.toList o (fun s' => S s'.h ∧ DW P ty N ops S K f (listed.setIfInBounds i true) s') s
  | .stop, b, fuel, listed, S, s, hok, hS, h => by
    refine ⟨?_, fun i hi => by cases hi⟩
    rintro rfl
    simp only [Plan.ok, List.isEmpty_iff] at hok
    simp only [pops] at h
    cases fuel with
    | zero => exact ⟨hok, h⟩
    | succ f => exact ⟨fun _ => h, fun i hi => by rw [hok] at hi; cases hi⟩
  | .soft i r, b, fuel, listed, S, s, hok, hS, h => by
    refine ⟨?_, fun i hi => by cases hi⟩
    rintro rfl
    cases fuel with
    | zero => simp [Plan.ok] at hok
    | succ f =>
      simp only [Plan.ok, Bool.and_eq_true] at hok
      obtain ⟨⟨⟨h1, h2⟩, h3⟩, h4⟩ := hok
      simp only [pops] at h
      split at h
      · rename_i o ho
        have ho' : ops[i]? = some o := by rw [← Array.getElem?_toList]; exact ho
        rw [ho'] at h3
        simp only at h3
        split at h
        · rename_i e he
          split at h
          · rename_i hst
            have := (pops_sound hK hs r true f _ S ⟨put o.dst e s.tm, s.h⟩ h4 hS h).1 rfl
            exact dw_first hK ho' h3 f listed s.tm s.h e (Region.free_spec ho' h2) (by simpa using h1) (fun h' _ => by rw [softV_still hst _ h' s.h]; exact he) hS this
          · rename_i hst
            have := (pops_sound hK hs r true f _ _ ⟨put o.dst e s.tm, s.h⟩ h4 ⟨hS, he⟩ h).1 rfl
            exact (dw_first (S := fun h => S h ∧ softV ty N ops.toList o s.tm h = some e) hK ho' h3 f listed s.tm s.h e (Region.free_spec ho' h2) (by simpa using h1) (fun h' hh => hh.2) ⟨hS, he⟩ this).mono fun _ h => h.1
        · exact h.elim
      · exact h.elim
  | .alt i r o, b, fuel, listed, S, s, hok, hS, h => by
    cases fuel with
    | zero => cases b <;> simp [Plan.ok] at hok
    | succ f =>
      simp only [Plan.ok, Bool.and_eq_true] at hok
      obtain ⟨⟨h1, h2⟩, h3⟩ := hok
      simp only [pops] at h
      obtain ⟨ha, hb⟩ := h
      have key : ∀ k ∈ (Plan.alt i r o).heads, ∀ op, ops[k]? = some op → ∃ f', f + 1 = f' + 1 ∧ stepC P ty N ops.toList op (fun s' => S s'.h ∧ DW P ty N ops S K f' (listed.setIfInBounds k true) s') s := by
        intro k hk op hop
        simp only [Plan.heads, List.mem_cons] at hk
        rcases hk with rfl | hk
        · refine ⟨f, rfl, ?_⟩
          rw [Array.getElem?_toList, hop] at ha
          simp only at ha
          exact step_mono (fun s' ⟨a, b⟩ => ⟨a, (pops_sound hK hs r true f _ S s' h2 a b).1 rfl⟩) ha
        · exact (pops_sound hK hs o false (f + 1) listed S s h3 hS hb).2 k hk op hop
      refine ⟨?_, key⟩
      rintro rfl
      simp only [Bool.not_true, Bool.false_or, Bool.and_eq_true, List.all_eq_true] at h1
      refine ⟨fun h0 => ?_, fun k hk op hop => ?_⟩
      · rw [h0] at h1; simp at h1
      · obtain ⟨f', hf, q⟩ := key k (by simpa [Plan.heads] using h1.2 k hk) op hop
        cases hf
        exact q

theorem pops_mono {all : List Oper} {K K' : St → Prop} (hk : ∀ s, K s → K' s) : ∀ (p : Plan) {b : Bool} {S : Heap → Prop} {s : St}, pops P ty N all K p b S s → pops P ty N all K' p b S s
  | .stop, true, _, _, h => hk _ h
  | .stop, false, _, _, _ => trivial
  | .soft i r, b, S, s, h => by
    simp only [pops] at *
    split at h
    · split at h
      · split at h
        · exact pops_mono hk r h
        · exact pops_mono hk r h
      · exact h
    · exact h
  | .alt i r o, b, S, s, h => by
    simp only [pops] at *
    refine ⟨?_, pops_mono hk o h.2⟩
    have h1 := h.1
    split at h1
    · exact step_mono (fun _ ⟨a, b⟩ => ⟨a, pops_mono hk r b⟩) h1
    · exact h1
theorem Like.byNumber {ι : List Place} {tm tm' : List (Nat × Ent)} {h : Heap} {a : Act} {w : World} (e : ∀ t, lk tm t = lk tm' t) (L : Like ι ⟨tm', h⟩ N a w) : Like ι ⟨tm, h⟩ N a w :=
  ⟨L.1, L.2.1, L.2.2.1, fun t x hx => L.2.2.2 t x ((e t).symm.trans hx)⟩
theorem cw_drawn (T : TyOk P ty) (hm : P.follows .mixedOrders = true) {id : Nat} {ops : Array Oper} {s : St} {Q : Exit → St → Prop} (p : Plan) (hs : Region.noSelect ops = true) (hp : p.ok ops true ops.size (Array.replicate ops.size false) = true)
    (h : pops P ty N ops.toList (Q .normal) p true (fun _ => True) s) : CW P N (.region id ops true) s Q := by
  intro ι a w L
  refine wp_region_any hm ?_
  have hK : ByNumber fun s' => ∃ tm, (∀ t, lk tm t = lk s'.tm t) ∧ Q .normal ⟨tm, s'.h⟩ := fun tm tm' h he ⟨tm0, h0, q⟩ => ⟨tm0, fun t => (h0 t).trans (he t), q⟩
  have hd := (pops_sound (P := P) (ty := ty) (N := N) (ops := ops) hK hs p true ops.size _ (fun _ => True) s hp trivial (pops_mono (fun s' q => ⟨s'.tm, fun _ => rfl, q⟩) p h)).1 rfl
  refine dw_sound T (w := { w with drawn := w.drawn + 1 }) (a := a) ⟨L.1.drew _, L.2⟩ hd ?_
  rintro a' w' ⟨κ, s', ⟨tm, h0, q⟩, L', g⟩
  exact ⟨κ, ⟨tm, s'.h⟩, q, L'.byNumber h0, (Grow.drew _).trans g⟩
end Go.Sx
