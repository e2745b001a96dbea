/-
  Sx, part T: running code whose regions draw their order. Own words; no condition.
-/
import Derived.Test.YtfefdjomenfchaaSxO
import Derived.LoopN
namespace Go.Sx
open Go
variable {P : Program} {ty : TypeId → Option TD} {N : Nat}
def sameAll {α : Type} (f : α → α → Bool) : List α → List α → Bool
  | [], [] => true
  | x :: xs, y :: ys => f x y && sameAll f xs ys
  | _, _ => false
theorem sameAll_eq {α : Type} {f : α → α → Bool} (hf : ∀ x y, f x y = true → x = y) : ∀ {xs ys : List α}, sameAll f xs ys = true → xs = ys
  | [], [], _ => rfl
  | x :: xs, y :: ys, h => by
    simp only [sameAll, Bool.and_eq_true] at h
    rw [hf x y h.1, sameAll_eq hf h.2]
  | [], _ :: _, h => by simp [sameAll] at h
  | _ :: _, [], h => by simp [sameAll] at h
def sameV : Nat → Value → Value → Bool
  | 0, _, _ => false
  | n + 1, x, y =>
    match x, y with
    | .bool a, .bool b => a == b
    | .int k a, .int k' b => decide (k = k') && decide (a = b)
    | .string a, .string b => a.data.toList == b.data.toList
    | .pointer a, .pointer b => decide (a = b)
    | .slice a l c, .slice b l' c' => decide (a = b) && (l == l') && (c == c')
    | .agg xs, .agg ys => sameAll (sameV n) xs.toList ys.toList
    | .tuple xs, .tuple ys => sameAll (sameV n) xs.toList ys.toList
    | .nilFunc, .nilFunc => true
    | .nilIface, .nilIface => true
    | .map none, .map none => true
    | .func (.func f) a b, .func (.func g) c d => (f == g) && sameAll (sameV n) a.toList c.toList && sameAll (sameV n) b.toList d.toList
    | _, _ => false
theorem sameV_eq : ∀ (n : Nat) (x y : Value), sameV n x y = true → x = y := by
  intro n
  induction n with
  | zero => intro x y h; simp [sameV] at h
  | succ n ih =>
    intro x y h
    unfold sameV at h
    split at h
    · simp at h; rw [h]
    · simp at h; rw [h.1, h.2]
    · rename_i a b
      simp at h
      obtain ⟨⟨la⟩⟩ := a
      obtain ⟨⟨lb⟩⟩ := b
      simp at h; rw [h]
    · simp at h; rw [h]
    · simp at h; rw [h.1.1, h.1.2, h.2]
    · rename_i a b
      have := sameAll_eq ih h
      rw [Array.ext' this]
    · rename_i a b
      have := sameAll_eq ih h
      rw [Array.ext' this]
    · rfl
    · rfl
    · rfl
    · simp only [Bool.and_eq_true, beq_iff_eq] at h
      rw [h.1.1, Array.ext' (sameAll_eq ih h.1.2), Array.ext' (sameAll_eq ih h.2)]
    · simp at h
def sameE (x y : Ent) : Bool :=
  match x, y with
  | .v a, .v b => sameV 6 a b
  | _, _ => false
theorem sameE_eq {x y : Ent} (h : sameE x y = true) : x = y := by
  unfold sameE at h
  split at h
  · rw [sameV_eq 6 _ _ h]
  · simp at h
def sameB (x y : Option Blk) : Bool :=
  match x, y with
  | none, none => true
  | some (.cells cs o u), some (.cells ds p v) => sameAll (sameV 4) cs ds && (o == p) && (u == v)
  | _, _ => false
theorem sameB_eq {x y : Option Blk} (h : sameB x y = true) : x = y := by
  unfold sameB at h
  split at h
  · rfl
  · simp only [Bool.and_eq_true, beq_iff_eq] at h
    rw [sameAll_eq (sameV_eq 4) h.1.1, h.1.2, h.2]
  · simp at h
/-- Whether what stood stands as it did. -/
def agreeB : Heap → Heap → Bool
  | [], _ => true
  | none :: h, _ :: h' => agreeB h h'
  | some b :: h, b' :: h' => sameB (some b) b' && agreeB h h'
  | _ :: _, [] => false
theorem agreeB_ok : ∀ {h h' : Heap}, agreeB h h' = true → Agree h h'
  | [], _, _, i, b, hb => by simp [hget] at hb
  | none :: h, c :: h', q, i, b, hb => by
    cases i with
    | zero => simp [hget] at hb
    | succ i => rw [hget_s] at hb ⊢; exact agreeB_ok (h := h) q i b hb
  | some x :: h, c :: h', q, i, b, hb => by
    simp only [agreeB, Bool.and_eq_true] at q
    cases i with
    | zero => rw [hget_0] at hb ⊢; rw [← sameB_eq q.1]; exact hb
    | succ i => rw [hget_s] at hb ⊢; exact agreeB_ok (h := h) q.2 i b hb
  | none :: _, [], q, _, _, _ => by simp [agreeB] at q
  | some _ :: _, [], q, _, _, _ => by simp [agreeB] at q
/-- The same slots, in any order; the same heap. -/
def sameT (a b : List (Nat × Ent)) : Bool := a.all fun p => match lk a p.1, lk b p.1 with
  | some x, some y => sameE x y
  | _, _ => false
def sameS (s z : St) : Bool := sameT s.tm z.tm && sameT z.tm s.tm && sameAll sameB s.h z.h
theorem sameT_lk {a b : List (Nat × Ent)} (h : sameT a b = true) : ∀ t e, lk a t = some e → lk b t = some e := by
  intro t e ht
  have hm : ∃ x, (t, x) ∈ a := by
    clear h
    induction a with
    | nil => simp [lk] at ht
    | cons p r ih =>
      obtain ⟨u, v⟩ := p
      simp only [lk] at ht
      split at ht
      · rename_i hu; subst hu; exact ⟨v, by simp⟩
      · obtain ⟨x, hx⟩ := ih ht; exact ⟨x, by simp [hx]⟩
  obtain ⟨x, hx⟩ := hm
  have := List.all_eq_true.1 h _ hx
  simp only [ht] at this
  cases hb : lk b t with
  | none => simp [hb] at this
  | some y => simp only [hb] at this; rw [sameE_eq this]
theorem sameS_ok {s z : St} (h : sameS s z = true) : (∀ t, lk s.tm t = lk z.tm t) ∧ s.h = z.h := by
  simp only [sameS, Bool.and_eq_true] at h
  refine ⟨fun t => ?_, sameAll_eq (fun _ _ => sameB_eq) h.2⟩
  cases hs : lk s.tm t with
  | some e => rw [sameT_lk h.1.1 t e hs]
  | none =>
    cases hz : lk z.tm t with
    | none => rfl
    | some e => rw [sameT_lk h.1.2 t e hz] at hs; cases hs
/-- A plan for a region: quiet ones first; else whichever comes up. -/
def mkAlts (ops : Array Oper) (rest : Nat → PlanQ) (pend : List Nat) : List Nat → PlanQ
  | [] => .stop
  | i :: r => .alt i (!(pend.all fun k => !noEdge ops i k)) (rest i) (mkAlts ops rest pend r)
def mkPlan (ops : Array Oper) : Nat → Array Bool → List Nat → PlanQ
  | 0, _, _ => .stop
  | n + 1, listed, pend =>
    match (Region.ready .any ops listed).find? (fun i => (match ops[i]? with | some o => isP o.op | none => false) && Region.free .any ops listed i) with
    | some i => match ops[i]? with
      | some o => match still o.op with
        | true => .soft i false (mkPlan ops n (listed.setIfInBounds i true) pend)
        | false => .soft i true (mkPlan ops n (listed.setIfInBounds i true) (i :: pend))
      | none => .stop
    | none => mkAlts ops (fun i => mkPlan ops n (listed.setIfInBounds i true) pend) pend (Region.ready .any ops listed)
def planOf (ops : Array Oper) : PlanQ := mkPlan ops ops.size (Array.replicate ops.size false) []
noncomputable section
variable (P : Program) (ty : TypeId → Option TD) (N : Nat)
def goodQ (q : Bool) (l : List Heap) (h : Heap) : Bool :=
  match q with
  | true => l.all fun g => agreeB g h
  | false => true
def isStop : PlanQ → Bool
  | .stop => true
  | _ => false
def drawE (run : Run) (all : List Oper) : PlanQ → Bool → List Heap → St → Option St
  | .stop, _, _, s => some s
  | .soft i w r, _, l, s => match all[i]? with
    | some o => match isP o.op, kindA ty o.op with
      | true, false => match stepE ty N run all o s with
        | some s1 => drawE run all r true (pendH w s.h l) s1
        | none => none
      | _, _ => none
    | none => none
  | .alt i q r o, _, l, s => match all[i]? with
    | some op => match stepE ty N run all op s with
      | some s1 => match goodQ q l s1.h with
        | true => match drawE run all r true l s1 with
          | some s2 => match isStop o with
            | true => some s2
            | false => match drawE run all o false l s with
              | some s3 => match sameS s3 s2 with
                | true => some s2
                | false => none
              | none => none
          | none => none
        | false => none
      | none => none
    | none => none
end
/-- The same, in words that say what holds. -/
def popsQ (P : Program) (ty : TypeId → Option TD) (N : Nat) (all : List Oper) (K : St → Prop) : PlanQ → Bool → List Heap → St → Prop
  | .stop, true, _, s => K s
  | .stop, false, _, _ => True
  | .soft i w r, _, pend, s => ∃ o e, all[i]? = some o ∧ softQ ty N all o s.tm s.h = some e ∧ popsQ P ty N all K r true (pendH w s.h pend) ⟨put o.dst e s.tm, s.h⟩
  | .alt i q r o, _, pend, s => (∃ op, all[i]? = some op ∧ stepQ P ty N all op (fun s' => agreeQ q pend s'.h ∧ popsQ P ty N all K r true pend s') s) ∧ popsQ P ty N all K o false pend s
theorem popsQ_sound {K : St → Prop} (hK : ByNumber K) {ops : Array Oper} : ∀ (p : PlanQ) (b : Bool) (fuel : Nat) (listed : Array Bool) (pend : List (Nat × Heap)) (s : St), p.ok ops b fuel listed (pend.map (·.1)) = true → popsQ P ty N ops.toList K p b (pend.map (·.2)) s →
    (b = true → DQ P ty N ops (Sof ops pend) K fuel listed s) ∧ ∀ i ∈ p.heads, ∀ o, ops[i]? = some o → ∃ f, fuel = f + 1 ∧ stepQ P ty N ops.toList o (fun s' => (s'.h = s.h ∨ Sof ops pend i s'.h) ∧ DQ P ty N ops (Sof ops pend) K f (listed.setIfInBounds i true) s') s
  | .stop, b, fuel, listed, pend, s, hok, h => by
    refine ⟨?_, fun i hi => by cases hi⟩
    rintro rfl
    simp only [PlanQ.ok, List.isEmpty_iff] at hok
    simp only [popsQ] at h
    cases fuel with
    | zero => exact ⟨hok, h⟩
    | succ f => exact ⟨fun _ => h, fun i hi => by rw [hok] at hi; cases hi⟩
  | .soft i w r, b, fuel, listed, pend, s, hok, h => by
    refine ⟨?_, fun i hi => by cases hi⟩
    rintro rfl
    cases fuel with
    | zero => simp [PlanQ.ok] at hok
    | succ f =>
      simp only [PlanQ.ok, Bool.and_eq_true] at hok
      obtain ⟨⟨⟨h1, h2⟩, h3⟩, h4⟩ := hok
      simp only [popsQ] at h
      obtain ⟨o, e, ho, a1, a3⟩ := h
      have ho' : ops[i]? = some o := by rw [← Array.getElem?_toList]; exact ho
      rw [ho'] at h3
      simp only [Bool.and_eq_true] at h3
      cases w with
      | true =>
        have := (popsQ_sound hK r true f _ ((i, s.h) :: pend) ⟨put o.dst e s.tm, s.h⟩ h4 a3).1 rfl
        refine (dq_first (S := Sof ops ((i, s.h) :: pend)) hK ho' h3.1 f listed s.tm s.h e (Region.free_spec ho' h2) (by simpa using h1) (fun j h' hn hh => softQ_agree (hh (i, s.h) (by simp) hn) a1) a1 this).mono fun j h q p hp => q p (by simp [hp])
      | false =>
        have hst : still o.op = true := by simpa using h3.2
        have := (popsQ_sound hK r true f _ pend ⟨put o.dst e s.tm, s.h⟩ h4 a3).1 rfl
        refine dq_first (S := Sof ops pend) hK ho' h3.1 f listed s.tm s.h e (Region.free_spec ho' h2) (by simpa using h1) (fun j h' hn hh => ?_) a1 this
        have e : softQ ty N ops.toList o s.tm h' = softQ ty N ops.toList o s.tm s.h := by
          unfold softQ
          rw [semP_still hst s.tm h' s.h]
        rw [e]; exact a1
  | .alt i q r o, b, fuel, listed, pend, s, hok, h => by
    cases fuel with
    | zero => cases b <;> simp [PlanQ.ok] at hok
    | succ f =>
      simp only [PlanQ.ok, Bool.and_eq_true] at hok
      obtain ⟨⟨⟨h1, hq⟩, h2⟩, h3⟩ := hok
      simp only [popsQ] at h
      obtain ⟨ha, hb⟩ := h
      have key : ∀ k ∈ (PlanQ.alt i q r o).heads, ∀ op, ops[k]? = some op → ∃ f', f + 1 = f' + 1 ∧ stepQ P ty N ops.toList op (fun s' => (s'.h = s.h ∨ Sof ops pend k s'.h) ∧ DQ P ty N ops (Sof ops pend) K f' (listed.setIfInBounds k true) s') s := by
        intro k hk op hop
        simp only [PlanQ.heads, List.mem_cons] at hk
        rcases hk with rfl | hk
        · refine ⟨f, rfl, ?_⟩
          obtain ⟨op', ho', ha⟩ := ha
          rw [Array.getElem?_toList, hop] at ho'
          cases ho'
          refine stepQ_mono (fun s' ⟨a, b⟩ => ⟨.inr ?_, (popsQ_sound hK r true f _ pend s' h2 b).1 rfl⟩) ha
          intro p hp hn
          cases q with
          | true => exact agreeAll_mem a p.2 (List.mem_map.2 ⟨p, hp, rfl⟩)
          | false =>
            simp only [Bool.false_or, List.all_eq_true, List.mem_map, forall_exists_index, and_imp, Bool.not_eq_true'] at hq
            have := hq p.1 p hp rfl
            rw [hn] at this; cases this
        · exact (popsQ_sound hK o false (f + 1) listed pend s h3 hb).2 k hk op hop
      refine ⟨?_, key⟩
      rintro rfl
      simp only [Bool.not_true, Bool.false_or, Bool.and_eq_true, List.all_eq_true] at h1
      refine ⟨fun h0 => ?_, fun k hk op hop => ?_⟩
      · rw [h0] at h1; simp at h1
      · obtain ⟨f', hf, q⟩ := key k (by simpa [PlanQ.heads] using h1.2 k hk) op hop
        cases hf
        exact q

theorem alike_all {all : List Oper} {s s' : List (Nat × Ent)} {o : Oper} (e : ∀ t, lk s t = lk s' t) : Alike' all s s' o := ⟨fun t _ => e t, fun _ _ t _ => e t⟩
theorem popsQ_congr {all : List Oper} {K : St → Prop} (hK : ByNumber K) : ∀ (p : PlanQ) {b : Bool} {l : List Heap} {tm tm' : List (Nat × Ent)} {h : Heap}, (∀ t, lk tm t = lk tm' t) → popsQ P ty N all K p b l ⟨tm, h⟩ → popsQ P ty N all K p b l ⟨tm', h⟩
  | .stop, true, _, _, _, _, e, q => hK _ _ _ e q
  | .stop, false, _, _, _, _, _, _ => trivial
  | .soft i w r, b, l, tm, tm', h, e, q => by
    simp only [popsQ] at *
    obtain ⟨o, en, ho, hs, q⟩ := q
    exact ⟨o, en, ho, by rw [← softQ_congr (alike_all e)]; exact hs, popsQ_congr hK r (fun t => by rw [lk_put, lk_put, e]) q⟩
  | .alt i q r o, b, l, tm, tm', h, e, hq => by
    simp only [popsQ] at *
    obtain ⟨⟨op, ho, hs⟩, h2⟩ := hq
    refine ⟨⟨op, ho, ?_⟩, popsQ_congr hK o e h2⟩
    refine stepQ_mono ?_ (stepQ_congr (alike_all e) hs)
    rintro z ⟨u, h', rfl, a, b⟩
    exact ⟨a, popsQ_congr hK r (fun t => by rw [lk_put, lk_put, e]) b⟩
theorem popsQ_mono {all : List Oper} {K K' : St → Prop} (hk : ∀ s, K s → K' s) : ∀ (p : PlanQ) {b : Bool} {l : List Heap} {s : St}, popsQ P ty N all K p b l s → popsQ P ty N all K' p b l s
  | .stop, true, _, _, q => hk _ q
  | .stop, false, _, _, _ => trivial
  | .soft i w r, b, l, s, q => by
    simp only [popsQ] at *
    obtain ⟨o, e, ho, hs, q⟩ := q
    exact ⟨o, e, ho, hs, popsQ_mono hk r q⟩
  | .alt i q r o, b, l, s, hq => by
    simp only [popsQ] at *
    obtain ⟨⟨op, ho, hs⟩, h2⟩ := hq
    exact ⟨⟨op, ho, stepQ_mono (fun _ ⟨a, b⟩ => ⟨a, popsQ_mono hk r b⟩) hs⟩, popsQ_mono hk o h2⟩
/-- What a step gives, in the words of part Z. -/
theorem stepE_Q {run : Run} (hr : RunOk P run) {all : List Oper} {o : Oper} {s s1 : St} (h : stepE ty N run all o s = some s1) :
    stepQ P ty N all o (fun z => (∀ t, lk z.tm t = lk s1.tm t) ∧ z.h = s1.h) s := by
  unfold stepE at h
  unfold stepQ
  have ex : ∀ v h', execE ty run o.op s = some (v, h') → s1 = ⟨setD o.dst (.v v) s.tm, h'⟩ → exec P ty o (fun z => (∀ t, lk z.tm t = lk s1.tm t) ∧ z.h = s1.h) s := by
    rintro v h' hx rfl
    refine exec_mono ?_ (execE_exec hr hx)
    rintro z rfl
    exact ⟨fun t => (lk_setD _ _ _ t).symm, rfl⟩
  split at h
  · simp at h
  · rename_i hd
    simp only [hd]
    cases hg : o.guard with
    | none =>
      simp only [hg] at h ⊢
      split at h
      · rename_i v h' hx; simp at h; exact ex v h' hx h.symm
      · simp at h
    | some g =>
      simp only [hg] at h ⊢
      cases hs : guardSlot all g with
      | none => simp only [hs, reduceCtorEq] at h
      | some t =>
        simp only [hs] at h
        have hq : askG all s.tm g = (lk s.tm t).bind guardW := by unfold askG; rw [hs]; rfl
        rw [hq]
        split at h
        · simp at h
        · rename_i hb
          simp at h; subst h
          simp only [hb]
          exact ⟨fun t => (lk_setD _ _ _ t).symm, trivial⟩
        · rename_i b hb
          simp only [hb]
          split at h
          · rename_i hw
            simp only [hw]
            split at h
            · rename_i v h' hx; simp at h; exact ex v h' hx h.symm
            · simp at h
          · rename_i hw
            simp only [hw]
            simp at h; subst h
            exact ⟨fun t => (lk_setD _ _ _ t).symm, rfl⟩
theorem stepE_soft {run : Run} {all : List Oper} {o : Oper} {s s1 : St} (hp : isP o.op = true) (hA : kindA ty o.op = false) (h : stepE ty N run all o s = some s1) :
    ∃ e, softQ ty N all o s.tm s.h = some e ∧ (∀ t, lk (put o.dst e s.tm) t = lk s1.tm t) ∧ s1.h = s.h := by
  unfold stepE at h
  unfold softQ
  have ex : ∀ v h', execE ty run o.op s = some (v, h') → semP ty true o.op s.tm s.h = some v ∧ h' = s.h := by
    intro v h' hx
    unfold execE at hx
    simp only [callee_isP hp, hA] at hx
    split at hx
    · rename_i v' hv; simp at hx; obtain ⟨rfl, rfl⟩ := hx; exact ⟨hv, rfl⟩
    · simp at hx
  split at h
  · simp at h
  · rename_i hd
    simp only [hd, hA]
    cases hg : o.guard with
    | none =>
      simp only [hg] at h ⊢
      split at h
      · rename_i v h' hx
        obtain ⟨h1, rfl⟩ := ex v h' hx
        simp at h; subst h
        exact ⟨.v v, by rw [h1]; rfl, fun t => (lk_setD _ _ _ t).symm, rfl⟩
      · simp at h
    | some g =>
      simp only [hg] at h ⊢
      cases hs : guardSlot all g with
      | none => simp only [hs, reduceCtorEq] at h
      | some t =>
        simp only [hs] at h
        have hq : askG all s.tm g = (lk s.tm t).bind guardW := by unfold askG; rw [hs]; rfl
        rw [hq]
        split at h
        · simp at h
        · rename_i hb
          simp at h; subst h
          simp only [hb]
          exact ⟨_, rfl, fun t => (lk_setD _ _ _ t).symm, trivial⟩
        · rename_i b hb
          simp only [hb]
          split at h
          · rename_i hw
            simp only [hw]
            split at h
            · rename_i v h' hx
              obtain ⟨h1, rfl⟩ := ex v h' hx
              simp at h; subst h
              exact ⟨.v v, by rw [h1]; rfl, fun t => (lk_setD _ _ _ t).symm, rfl⟩
            · simp at h
          · rename_i hw
            simp only [hw]
            simp at h; subst h
            exact ⟨_, rfl, fun t => (lk_setD _ _ _ t).symm, rfl⟩
theorem goodQ_ok {q : Bool} {l : List Heap} {h : Heap} (g : goodQ q l h = true) : agreeQ q l h := by
  cases q with
  | false => trivial
  | true =>
    simp only [goodQ] at g
    show agreeAll l h
    induction l with
    | nil => trivial
    | cons a r ih =>
      simp only [List.all_cons, Bool.and_eq_true] at g
      exact ⟨agreeB_ok g.1, ih g.2⟩
theorem byN (s : St) : ByNumber fun z : St => (∀ t, lk z.tm t = lk s.tm t) ∧ z.h = s.h := fun _ _ _ e ⟨a, b⟩ => ⟨fun t => (e t).symm.trans (a t), b⟩
theorem drawE_sound (T : TyOk P ty) {run : Run} (hr : RunOk P run) {all : List Oper} : ∀ (p : PlanQ) (b : Bool) (l : List Heap) (s s2 : St), drawE ty N run all p b l s = some s2 → popsQ P ty N all (fun z => (∀ t, lk z.tm t = lk s2.tm t) ∧ z.h = s2.h) p b l s
  | .stop, true, _, s, s2, h => by
    simp only [drawE, Option.some.injEq] at h; subst h
    exact ⟨fun _ => rfl, rfl⟩
  | .stop, false, _, s, s2, h => trivial
  | .soft i w r, b, l, s, s2, h => by
    simp only [drawE] at h
    split at h
    · rename_i o ho
      split at h
      · rename_i hp hA
        split at h
        · rename_i s1 h1
          obtain ⟨e, h2, h3, h4⟩ := stepE_soft hp hA h1
          refine ⟨o, e, ho, h2, ?_⟩
          obtain ⟨tm1, hp1⟩ := s1
          simp only at h3 h4
          subst h4
          exact popsQ_congr (byN s2) r (fun t => (h3 t).symm) (drawE_sound T hr r true _ _ s2 h)
        · simp at h
      · simp at h
    · simp at h
  | .alt i q r o, b, l, s, s2, h => by
    simp only [drawE] at h
    split at h
    · rename_i op hop
      split at h
      · rename_i s1 h1
        split at h
        · rename_i hg
          split at h
          · rename_i s3 h3
            have first : ∃ op, all[i]? = some op ∧ stepQ P ty N all op (fun s' => agreeQ q l s'.h ∧ popsQ P ty N all (fun z => (∀ t, lk z.tm t = lk s3.tm t) ∧ z.h = s3.h) r true l s') s := by
              refine ⟨op, hop, stepQ_mono ?_ (stepE_Q hr h1)⟩
              rintro ⟨tm, hp⟩ ⟨e1, e2⟩
              simp only at e1 e2
              subst e2
              exact ⟨goodQ_ok hg, popsQ_congr (byN s3) r (fun t => (e1 t).symm) (drawE_sound T hr r true l s1 s3 h3)⟩
            split at h
            · rename_i hstop
              simp at h; subst h
              cases o with
              | stop => exact ⟨first, trivial⟩
              | _ => simp [isStop] at hstop
            · split at h
              · rename_i s4 h4
                split at h
                · rename_i hs
                  simp at h; subst h
                  obtain ⟨e1, e2⟩ := sameS_ok hs
                  exact ⟨first, popsQ_mono (fun z ⟨a, b⟩ => ⟨fun t => (a t).trans (e1 t), b.trans e2⟩) o (drawE_sound T hr o false l s s4 h4)⟩
                · simp at h
              · simp at h
          · simp at h
        · simp at h
      · simp at h
    · simp at h
noncomputable section
section
variable (P : Program) (ty : TypeId → Option TD) (N : Nat)
def codeE (run : Run) : Nat → Code → St → Option (Exit × St)
  | 0, _, _ => none
  | n + 1, .seq a b, s => match codeE run n a s with
    | some (.normal, s') => codeE run n b s'
    | r => r
  | _ + 1, .region _ ops false, s => match opsE ty N run ops.toList ops.toList s with
    | some s' => some (.normal, s')
    | none => none
  | _ + 1, .region _ ops true, s => match planOk ops (planOf ops) with
    | true => match drawE ty N run ops.toList (planOf ops) true [] s with
      | some s' => some (.normal, s')
      | none => none
    | false => none
  | n + 1, .cond c x y, s => match ev true s.tm c with
    | some (.bool true) => codeE run n x s
    | some (.bool false) => codeE run n y s
    | _ => none
  | n + 1, .block id c, s => match codeE run n c s with
    | some (.exit i, s') => match Nat.beq i id with
      | true => some (.normal, s')
      | false => some (.exit i, s')
    | r => r
  | n + 1, .loop c, s => match codeE run n c s with
    | some (.normal, s') => codeE run n (.loop c) s'
    | r => r
  | _ + 1, .skip, s => some (.normal, s)
  | _ + 1, .ret, s => some (.ret, s)
  | _ + 1, .exit i, s => some (.exit i, s)
  | _ + 1, _, _ => none
/-- A call: d deep at most, each body n long at most. -/
def fnE (n : Nat) (more : Run → Run) : Nat → Run
  | 0, _, _, _ => none
  | d + 1, f, args, h => match more (fnE n more d) f args h with
    | some r => some r
    | none => match P.funcs[f]? with
      | some fn => match fn.body with
        | some c => match fn.name == "runtime.NumGoroutine", Nat.ble args.length fn.ntmps with
          | false, true => match codeE ty fn.ntmps (fnE n more d) n c ⟨argTm 0 args, h⟩ with
            | some (.normal, s) => match resC ty fn.results.toList s with
              | some v => some (v, s.h)
              | none => none
            | some (.ret, s) => match resC ty fn.results.toList s with
              | some v => some (v, s.h)
              | none => none
            | _ => none
          | _, _ => none
        | none => none
      | none => none
end
end
theorem rounds_mono {c : Code} {Q Q' : Exit → Act → World → Prop} (hq : ∀ e a w, Q e a w → Q' e a w) : ∀ {n : Nat} {a : Act} {w : World}, Code.rounds P c Q n a w → Code.rounds P c Q' n a w
  | 0, _, _, h => h
  | n + 1, _, _, h => by
    rw [rounds_succ] at *
    refine Code.wp_mono (fun e a w q => ?_) h
    cases e with
    | normal => exact rounds_mono hq (n := n) q
    | _ => exact hq _ _ _ q
theorem codeE_sound (T : TyOk P ty) (hm : P.follows .mixedOrders = true) {run : Run} (hr : RunOk P run) : ∀ (n : Nat) (c : Code) (s : St) (e : Exit) (s' : St), codeE ty N run n c s = some (e, s') → CW P N c s fun e' z => e' = e ∧ z = s' := by
  intro n
  induction n using Nat.strongRecOn with
  | ind n0 ih0 =>
  cases n0 with
  | zero => intro c s e s' h; simp [codeE] at h
  | succ n =>
    intro c s e s' h
    have ih : ∀ m, m ≤ n → ∀ (c : Code) (s : St) (e : Exit) (s' : St), codeE ty N run m c s = some (e, s') → CW P N c s fun e' z => e' = e ∧ z = s' := fun m hm => ih0 m (by omega)
    have ihn := ih n (Nat.le_refl _)
    cases c with
    | seq a b =>
      refine cw_seq fun K hK => ?_
      simp only [codeE] at h
      split at h
      · rename_i s1 h1
        refine (ihn a s _ _ h1).mono ?_
        rintro e1 z ⟨h2, h3⟩
        subst h2; subst h3
        exact hK _ (ihn b _ e s' h)
      · rename_i r hne
        refine (ihn a s e s' h).mono ?_
        rintro e1 z ⟨h2, h3⟩
        cases e1 with
        | normal => rw [← h2] at h; exact absurd h (by intro h; exact hne _ h)
        | _ => exact ⟨h2, h3⟩
    | region id ops b =>
      cases b with
      | true =>
        simp only [codeE] at h
        split at h
        · rename_i hpl
          split at h
          · rename_i s1 h1
            simp at h; obtain ⟨rfl, rfl⟩ := h
            intro ι a w L
            refine wp_region_any hm ?_
            have hK : ByNumber fun z : St => (∀ t, lk z.tm t = lk s1.tm t) ∧ z.h = s1.h := fun tm tm' h e ⟨a, b⟩ => ⟨fun t => (e t).symm.trans (a t), b⟩
            have hd := (popsQ_sound (P := P) hK (planOf ops) true ops.size _ [] s hpl (drawE_sound T hr (planOf ops) true [] s s1 h1)).1 rfl
            refine dq_sound T (w := { w with drawn := w.drawn + 1 }) (a := a) ⟨L.1.drew _, L.2⟩ hd ?_
            rintro a' w' ⟨κ, s', ⟨h0, h1⟩, L', g⟩
            obtain ⟨tm', hp'⟩ := s'
            simp only at h0 h1
            subst h1
            exact ⟨κ, s1, ⟨rfl, rfl⟩, Like.byNumber (fun t => (h0 t).symm) L', (Grow.drew _).trans g⟩
          · simp at h
        · simp at h
      | false =>
        simp only [codeE] at h
        split at h
        · rename_i s1 h1
          simp at h; obtain ⟨rfl, rfl⟩ := h
          intro ι a w L
          refine wp_region_list (opsE_sound T hr _ L h1 fun a' w' q => ?_)
          obtain ⟨κ, z, hz, r⟩ := q
          exact ⟨κ, z, ⟨rfl, hz⟩, r⟩
        · simp at h
    | cond c x y =>
      simp only [codeE] at h
      split at h
      · rename_i hc
        exact cw_cond hc (fun _ => ihn x s e s' h) (fun h0 => by cases h0)
      · rename_i hc
        exact cw_cond hc (fun h0 => by cases h0) (fun _ => ihn y s e s' h)
      · simp at h
    | block id c =>
      refine cw_block ?_
      simp only [codeE] at h
      split at h
      · rename_i i s1 h1
        split at h
        · rename_i hb
          have := Nat.eq_of_beq_eq_true hb
          subst this
          simp at h; obtain ⟨rfl, rfl⟩ := h
          refine (ihn c s _ _ h1).mono ?_
          rintro _ _ ⟨rfl, rfl⟩
          simp [blockC]
        · rename_i hb
          have := Nat.ne_of_beq_eq_false hb
          simp at h; obtain ⟨rfl, rfl⟩ := h
          refine (ihn c s _ _ h1).mono ?_
          rintro _ _ ⟨rfl, rfl⟩
          simp [blockC, this]
      · rename_i r hne
        refine (ihn c s e s' h).mono ?_
        rintro e1 z ⟨h2, h3⟩
        cases e1 with
        | exit i => rw [← h2] at h; exact absurd h (by intro h; exact hne _ _ h)
        | _ => exact ⟨h2, h3⟩
    | loop c =>
      have key : ∀ (m : Nat), m ≤ n + 1 → ∀ (s : St) (e : Exit) (s' : St), codeE ty N run m (.loop c) s = some (e, s') → ∃ k, ∀ ι a w, Like ι s N a w → Code.rounds P c (fun e1 => Goes ι s.h w N (fun z => e1 = e ∧ z = s')) k a w := by
        intro m
        induction m with
        | zero => intro _ s e s' h; simp [codeE] at h
        | succ m ihm =>
          intro hm s e s' h
          have ihc : ∀ (s : St) (e : Exit) (s' : St), codeE ty N run m c s = some (e, s') → CW P N c s fun e' z => e' = e ∧ z = s' := fun s e s' h => ih m (by omega) c s e s' h
          simp only [codeE] at h
          split at h
          · rename_i s1 h1
            obtain ⟨k, hk⟩ := ihm (by omega) s1 e s' h
            refine ⟨k + 1, fun ι a w L => ?_⟩
            rw [rounds_succ]
            refine Code.wp_mono ?_ (ihc s _ _ h1 ι a w L)
            rintro e1 a1 w1 ⟨κ, z, ⟨h2, h3⟩, L1, g⟩
            subst h2; subst h3
            exact rounds_mono (fun _ _ _ q => Goes.trans g q) (hk κ a1 w1 L1)
          · rename_i r hne
            refine ⟨1, fun ι a w L => ?_⟩
            rw [rounds_succ]
            refine Code.wp_mono ?_ (ihc s e s' h ι a w L)
            rintro e1 a1 w1 ⟨κ, z, ⟨h2, h3⟩, L1, g⟩
            cases e1 with
            | normal => rw [← h2] at h; exact absurd h (by intro h; exact hne _ h)
            | _ => exact ⟨κ, z, ⟨h2, h3⟩, L1, g⟩
      obtain ⟨k, hk⟩ := key (n + 1) (Nat.le_refl _) s e s' h
      exact fun ι a w L => wp_loop_rounds k (hk ι a w L)
    | skip => simp only [codeE, Option.some.injEq, Prod.mk.injEq] at h; obtain ⟨rfl, rfl⟩ := h; exact cw_skip ⟨rfl, rfl⟩
    | ret => simp only [codeE, Option.some.injEq, Prod.mk.injEq] at h; obtain ⟨rfl, rfl⟩ := h; exact cw_ret ⟨rfl, rfl⟩
    | exit i => simp only [codeE, Option.some.injEq, Prod.mk.injEq] at h; obtain ⟨rfl, rfl⟩ := h; exact cw_exit ⟨rfl, rfl⟩
    | _ => simp [codeE] at h
theorem fnE_sound (T : TyOk P ty) (hmx : P.follows .mixedOrders = true) {n : Nat} {more : Run → Run} (hm : ∀ run, RunOk P run → RunOk P (more run)) : ∀ d, RunOk P (fnE P ty n more d) := by
  intro d
  induction d with
  | zero => intro f args h v h' hx; simp [fnE] at hx
  | succ d ih =>
    intro f args h v h' hx
    simp only [fnE] at hx
    split at hx
    · rename_i r hr
      simp at hx; subst hx
      exact hm _ ih f args h v h' hr
    · split at hx
      · rename_i fn hf
        split at hx
        · rename_i c hb
          split at hx
          · rename_i hn hl
            refine fn_intro T hf hb hn (Nat.le_of_ble_eq_true hl) ?_
            split at hx
            · rename_i s hs
              split at hx
              · rename_i u hu
                simp at hx; obtain ⟨rfl, rfl⟩ := hx
                refine (codeE_sound T hmx ih _ _ _ _ _ hs).mono ?_
                rintro _ _ ⟨rfl, rfl⟩
                exact ⟨.inl rfl, _, _, _, hu, Ret.refl _ _ _, rfl, rfl⟩
              · simp at hx
            · rename_i s hs
              split at hx
              · rename_i u hu
                simp at hx; obtain ⟨rfl, rfl⟩ := hx
                refine (codeE_sound T hmx ih _ _ _ _ _ hs).mono ?_
                rintro _ _ ⟨rfl, rfl⟩
                exact ⟨.inr rfl, _, _, _, hu, Ret.refl _ _ _, rfl, rfl⟩
              · simp at hx
            · simp at hx
          · simp at hx
        · simp at hx
      · simp at hx
/-- What is run, of plain arguments. -/
theorem fn_run (T : TyOk P ty) (hmx : P.follows .mixedOrders = true) {n d : Nat} {more : Run → Run} (hm : ∀ run, RunOk P run → RunOk P (more run)) {f : FuncId} {args : List Value} (ha : args.all closed1 = true) {v : Value} (hv : closed1 v = true)
    (h : (fnE P ty n more d f args []).map (fun p => p.1) = some v) (H : Heap) : Fn P f args H fun r g => r = v ∧ g = H := by
  refine Fn.over ha hv ?_ H
  simp only [Option.map_eq_some_iff] at h
  obtain ⟨⟨u, g⟩, h1, rfl⟩ := h
  exact (fnE_sound T hmx hm d f args [] u g h1).mono fun r g h => h.1
/-- Nothing more is known. -/
def noMore : Run → Run := fun _ _ _ _ => none
theorem noMore_ok (run : Run) (_ : RunOk P run) : RunOk P (noMore run) := fun _ _ _ _ _ h => by simp [noMore] at h
end Go.Sx
