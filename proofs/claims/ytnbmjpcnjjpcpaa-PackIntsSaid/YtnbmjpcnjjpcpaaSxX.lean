/-
  Sx, part X: running code on canonical states; what a run gives is what a call gives. Own words; no condition.
-/
import Derived.Test.YtnbmjpcnjjpcpaaSxV
import Derived.LoopN
namespace Go.Sx
open Go
noncomputable section
section
variable (P : Program) (ty : TypeId → Option TD) (N : Nat)
/-- A call, as it is run. -/
abbrev Run := FuncId → List Value → Heap → Option (Value × Heap)
def setT (t : Nat) (e : Ent) : List (Nat × Ent) → List (Nat × Ent)
  | [] => [(t, e)]
  | (a, x) :: r => match Nat.beq a t with
    | true => (a, e) :: r
    | false => (a, x) :: setT t e r
def setD (d : Option Tmp) (e : Ent) (tm : List (Nat × Ent)) : List (Nat × Ent) :=
  match d with
  | some t => setT t e tm
  | none => tm
def execE (run : Run) (o : Op) (s : St) : Option (Value × Heap) :=
  match callee s.tm o with
  | some p => run p.1 p.2 s.h
  | none => match kindA ty o with
    | true => semA ty o s.tm s.h
    | false => match semP ty true o s.tm s.h with
      | some v => some (v, s.h)
      | none => none
def stepE (run : Run) (all : List Oper) (o : Oper) (s : St) : Option St :=
  match dstOk N o with
  | false => none
  | true => match o.guard with
    | none => match execE ty run o.op s with
      | some (v, h') => some ⟨setD o.dst (.v v) s.tm, h'⟩
      | none => none
    | some g => match guardSlot all g with
      | none => none
      | some t => match (lk s.tm t).bind guardW with
        | none => none
        | some none => some ⟨setD o.dst (.v undef) s.tm, s.h⟩
        | some (some b) => match b == g.2 with
          | true => match execE ty run o.op s with
            | some (v, h') => some ⟨setD o.dst (.v v) s.tm, h'⟩
            | none => none
          | false => some ⟨setD o.dst (.v undef) s.tm, s.h⟩
def opsE (run : Run) (all : List Oper) : List Oper → St → Option St
  | [], s => some s
  | o :: os, s => match stepE ty N run all o s with
    | some s' => opsE run all os s'
    | none => none
def codeE (run : Run) : Nat → Code → St → Option (Exit × St)
  | 0, _, _ => none
  | n + 1, .seq a b, s => match codeE run n a s with
    | some (.normal, s') => codeE run n b s'
    | r => r
  | _ + 1, .region _ ops false, s => match opsE ty N run ops.toList ops.toList s with
    | some s' => some (.normal, s')
    | none => none
  | n + 1, .cond c x y, s => match ev true s.tm c with
    | some (.bool true) => codeE run n x s
    | some (.bool false) => codeE run n y s
    | _ => none
  | n + 1, .block id c, s => match codeE run n c s with
    | some (.exit i, s') => match Nat.beq i id with
      | true => some (.normal, s')
      | false => some (.exit i, s')
    | r => r
  | n + 1, .loop c, s => match codeE run n c s with
    | some (.normal, s') => codeE run n (.loop c) s'
    | r => r
  | _ + 1, .skip, s => some (.normal, s)
  | _ + 1, .ret, s => some (.ret, s)
  | _ + 1, .exit i, s => some (.exit i, s)
  | _ + 1, _, _ => none
/-- A call: d deep at most, each body n long at most. -/
def fnE (n : Nat) (more : Run → Run) : Nat → Run
  | 0, _, _, _ => none
  | d + 1, f, args, h => match more (fnE n more d) f args h with
    | some r => some r
    | none => match P.funcs[f]? with
      | some fn => match fn.body with
        | some c => match fn.name == "runtime.NumGoroutine", Nat.ble args.length fn.ntmps with
          | false, true => match codeE ty fn.ntmps (fnE n more d) n c ⟨argTm 0 args, h⟩ with
            | some (.normal, s) => match resC ty fn.results.toList s with
              | some v => some (v, s.h)
              | none => none
            | some (.ret, s) => match resC ty fn.results.toList s with
              | some v => some (v, s.h)
              | none => none
            | _ => none
          | _, _ => none
        | none => none
      | none => none
end
end
variable {P : Program} {ty : TypeId → Option TD} {N : Nat}
/-- What is run is so. -/
def RunOk (P : Program) (run : Run) : Prop := ∀ f args h v h', run f args h = some (v, h') → Fn P f args h fun r g => r = v ∧ g = h'
theorem lk_setT (t : Nat) (e : Ent) : ∀ (tm : List (Nat × Ent)) (u : Nat), lk (setT t e tm) u = if t = u then some e else lk tm u
  | [], u => by simp [setT, lk]
  | (a, x) :: r, u => by
    unfold setT
    split
    · rename_i hb
      have := Nat.eq_of_beq_eq_true hb
      subst this
      by_cases hu : a = u <;> simp [lk, hu]
    · rename_i hb
      have := Nat.ne_of_beq_eq_false hb
      by_cases hu : a = u
      · subst hu; simp [lk, Ne.symm this]
      · simp [lk, hu, lk_setT t e r u]
theorem lk_setD (d : Option Tmp) (e : Ent) (tm : List (Nat × Ent)) (t : Nat) : lk (setD d e tm) t = lk (put d e tm) t := by
  cases d with
  | none => rfl
  | some u => rw [setD, lk_setT, lk_put]; simp
theorem Goes.slots {ι : List Place} {h : Heap} {w : World} {d : Option Tmp} {e : Ent} {tm : List (Nat × Ent)} {h' : Heap} {a' : Act} {w' : World}
    (g : Goes ι h w N (fun z => z = ⟨put d e tm, h'⟩) a' w') : Goes ι h w N (fun z => z = ⟨setD d e tm, h'⟩) a' w' := by
  obtain ⟨κ, s', rfl, L, g⟩ := g
  exact ⟨κ, _, rfl, Like.byNumber (fun t => lk_setD d e tm t) L, g⟩
theorem execE_exec {run : Run} (hr : RunOk P run) {o : Oper} {s : St} {v : Value} {h' : Heap} (h : execE ty run o.op s = some (v, h')) : exec P ty o (fun z => z = ⟨put o.dst (.v v) s.tm, h'⟩) s := by
  unfold execE at h
  unfold exec
  split at h
  · rename_i p hc
    obtain ⟨f, args⟩ := p
    simp only [hc]
    exact CallK.of (hr f args s.h v h' h) fun _ _ ⟨a, b⟩ => by rw [a, b]
  · rename_i hc
    simp only [hc]
    split at h
    · simp only [h]
    · rename_i hA
      split at h
      · rename_i v' hv
        simp only [Option.some.injEq, Prod.mk.injEq] at h
        obtain ⟨rfl, rfl⟩ := h
        simp only [semA_none hA, hv]
      · simp at h
theorem stepE_sound (T : TyOk P ty) {run : Run} (hr : RunOk P run) {ι : List Place} {s s' : St} {a : Act} {w : World} (L : Like ι s N a w) {ops : Array Oper} {o : Oper} (h : stepE ty N run ops.toList o s = some s') (Q : Exit → Act → World → Prop) :
    if Region.wanted o (yielded ops a.tmps) then o.wp P a w (Goes ι s.h w N (fun z => z = s')) Q else Goes ι s.h w N (fun z => z = s') (a.put o.dst undef) w := by
  unfold stepE at h
  split at h
  · simp at h
  · rename_i hd
    have hlt := dstOk_lt hd
    have skip : Goes ι s.h w N (fun z => z = ⟨setD o.dst (.v undef) s.tm, s.h⟩) (a.put o.dst undef) w :=
      Goes.slots ⟨ι, _, rfl, ⟨L.1, L.2.put hlt undef_VR⟩, .refl _ _ _⟩
    have run1 : ∀ v h', execE ty run o.op s = some (v, h') → o.wp P a w (Goes ι s.h w N (fun z => z = ⟨setD o.dst (.v v) s.tm, h'⟩)) Q := fun v h' hx =>
      Oper.wp_mono (fun _ _ g => g.slots) (exec_sound T L hd (execE_exec hr hx) Q)
    split at h
    · rename_i hg
      rw [if_pos (by simp [Region.wanted, hg])]
      split at h
      · rename_i v h' hx
        simp at h; subst h
        exact run1 v h' hx
      · simp at h
    · rename_i g hg
      split at h
      · simp at h
      · rename_i t ht
        split at h
        · simp at h
        · rename_i hb
          simp only [Option.bind_eq_some_iff] at hb
          obtain ⟨e, he, hb⟩ := hb
          obtain ⟨vs, rfl⟩ := guardW_none hb
          obtain ⟨_, w2⟩ := wanted_of L.2 hg ht he
          rw [w2 vs rfl, if_neg (by decide)]
          simp at h; subst h
          exact skip
        · rename_i b hb
          simp only [Option.bind_eq_some_iff] at hb
          obtain ⟨e, he, hb⟩ := hb
          obtain rfl := guardW_some hb
          obtain ⟨w1, _⟩ := wanted_of L.2 hg ht he
          rw [w1 b rfl]
          split at h
          · rename_i hw
            rw [if_pos hw]
            split at h
            · rename_i v h' hx
              simp at h; subst h
              exact run1 v h' hx
            · simp at h
          · rename_i hw
            rw [if_neg (by rw [hw]; decide)]
            simp at h; subst h
            exact skip
theorem opsE_sound (T : TyOk P ty) {run : Run} (hr : RunOk P run) {ops : Array Oper} {Q : Exit → Act → World → Prop} : ∀ (l : List Oper) {s s' : St} {ι : List Place} {a : Act} {w : World}, Like ι s N a w → opsE ty N run ops.toList l s = some s' →
    (∀ a' w', Goes ι s.h w N (fun z => z = s') a' w' → Q .normal a' w') → wpList P ops Q l a w
  | [], s, s', ι, a, w, L, h, hQ => by
    simp only [opsE, Option.some.injEq] at h; subst h
    exact hQ a w ⟨ι, s, rfl, L, .refl _ _ _⟩
  | o :: os, s, s', ι, a, w, L, h, hQ => by
    simp only [opsE] at h
    split at h
    · rename_i s1 h1
      refine wpList_step fun K' hK' => ?_
      have hs := stepE_sound T hr L (ops := ops) h1 Q
      have next : ∀ a' w', Goes ι s.h w N (fun z => z = s1) a' w' → K' a' w' := by
        rintro a' w' ⟨κ, _, rfl, L', g⟩
        exact hK' _ _ (opsE_sound T hr os L' h fun a'' w'' q => hQ a'' w'' (Goes.trans g q))
      split
      · rename_i hw; rw [if_pos hw] at hs; exact Oper.wp_mono next hs
      · rename_i hw; rw [if_neg hw] at hs; exact next _ _ hs
    · simp at h
theorem rounds_mono {c : Code} {Q Q' : Exit → Act → World → Prop} (hq : ∀ e a w, Q e a w → Q' e a w) : ∀ {n : Nat} {a : Act} {w : World}, Code.rounds P c Q n a w → Code.rounds P c Q' n a w
  | 0, _, _, h => h
  | n + 1, _, _, h => by
    rw [rounds_succ] at *
    refine Code.wp_mono (fun e a w q => ?_) h
    cases e with
    | normal => exact rounds_mono hq (n := n) q
    | _ => exact hq _ _ _ q
theorem codeE_sound (T : TyOk P ty) {run : Run} (hr : RunOk P run) : ∀ (n : Nat) (c : Code) (s : St) (e : Exit) (s' : St), codeE ty N run n c s = some (e, s') → CW P N c s fun e' z => e' = e ∧ z = s' := by
  intro n
  induction n using Nat.strongRecOn with
  | ind n0 ih0 =>
  cases n0 with
  | zero => intro c s e s' h; simp [codeE] at h
  | succ n =>
    intro c s e s' h
    have ih : ∀ m, m ≤ n → ∀ (c : Code) (s : St) (e : Exit) (s' : St), codeE ty N run m c s = some (e, s') → CW P N c s fun e' z => e' = e ∧ z = s' := fun m hm => ih0 m (by omega)
    have ihn := ih n (Nat.le_refl _)
    cases c with
    | seq a b =>
      refine cw_seq fun K hK => ?_
      simp only [codeE] at h
      split at h
      · rename_i s1 h1
        refine (ihn a s _ _ h1).mono ?_
        rintro e1 z ⟨h2, h3⟩
        subst h2; subst h3
        exact hK _ (ihn b _ e s' h)
      · rename_i r hne
        refine (ihn a s e s' h).mono ?_
        rintro e1 z ⟨h2, h3⟩
        cases e1 with
        | normal => rw [← h2] at h; exact absurd h (by intro h; exact hne _ h)
        | _ => exact ⟨h2, h3⟩
    | region id ops b =>
      cases b with
      | true => simp [codeE] at h
      | false =>
        simp only [codeE] at h
        split at h
        · rename_i s1 h1
          simp at h; obtain ⟨rfl, rfl⟩ := h
          intro ι a w L
          refine wp_region_list (opsE_sound T hr _ L h1 fun a' w' q => ?_)
          obtain ⟨κ, z, hz, r⟩ := q
          exact ⟨κ, z, ⟨rfl, hz⟩, r⟩
        · simp at h
    | cond c x y =>
      simp only [codeE] at h
      split at h
      · rename_i hc
        exact cw_cond hc (fun _ => ihn x s e s' h) (fun h0 => by cases h0)
      · rename_i hc
        exact cw_cond hc (fun h0 => by cases h0) (fun _ => ihn y s e s' h)
      · simp at h
    | block id c =>
      refine cw_block ?_
      simp only [codeE] at h
      split at h
      · rename_i i s1 h1
        split at h
        · rename_i hb
          have := Nat.eq_of_beq_eq_true hb
          subst this
          simp at h; obtain ⟨rfl, rfl⟩ := h
          refine (ihn c s _ _ h1).mono ?_
          rintro _ _ ⟨rfl, rfl⟩
          simp [blockC]
        · rename_i hb
          have := Nat.ne_of_beq_eq_false hb
          simp at h; obtain ⟨rfl, rfl⟩ := h
          refine (ihn c s _ _ h1).mono ?_
          rintro _ _ ⟨rfl, rfl⟩
          simp [blockC, this]
      · rename_i r hne
        refine (ihn c s e s' h).mono ?_
        rintro e1 z ⟨h2, h3⟩
        cases e1 with
        | exit i => rw [← h2] at h; exact absurd h (by intro h; exact hne _ _ h)
        | _ => exact ⟨h2, h3⟩
    | loop c =>
      have key : ∀ (m : Nat), m ≤ n + 1 → ∀ (s : St) (e : Exit) (s' : St), codeE ty N run m (.loop c) s = some (e, s') → ∃ k, ∀ ι a w, Like ι s N a w → Code.rounds P c (fun e1 => Goes ι s.h w N (fun z => e1 = e ∧ z = s')) k a w := by
        intro m
        induction m with
        | zero => intro _ s e s' h; simp [codeE] at h
        | succ m ihm =>
          intro hm s e s' h
          have ihc : ∀ (s : St) (e : Exit) (s' : St), codeE ty N run m c s = some (e, s') → CW P N c s fun e' z => e' = e ∧ z = s' := fun s e s' h => ih m (by omega) c s e s' h
          simp only [codeE] at h
          split at h
          · rename_i s1 h1
            obtain ⟨k, hk⟩ := ihm (by omega) s1 e s' h
            refine ⟨k + 1, fun ι a w L => ?_⟩
            rw [rounds_succ]
            refine Code.wp_mono ?_ (ihc s _ _ h1 ι a w L)
            rintro e1 a1 w1 ⟨κ, z, ⟨h2, h3⟩, L1, g⟩
            subst h2; subst h3
            exact rounds_mono (fun _ _ _ q => Goes.trans g q) (hk κ a1 w1 L1)
          · rename_i r hne
            refine ⟨1, fun ι a w L => ?_⟩
            rw [rounds_succ]
            refine Code.wp_mono ?_ (ihc s e s' h ι a w L)
            rintro e1 a1 w1 ⟨κ, z, ⟨h2, h3⟩, L1, g⟩
            cases e1 with
            | normal => rw [← h2] at h; exact absurd h (by intro h; exact hne _ h)
            | _ => exact ⟨κ, z, ⟨h2, h3⟩, L1, g⟩
      obtain ⟨k, hk⟩ := key (n + 1) (Nat.le_refl _) s e s' h
      exact fun ι a w L => wp_loop_rounds k (hk ι a w L)
    | skip => simp only [codeE, Option.some.injEq, Prod.mk.injEq] at h; obtain ⟨rfl, rfl⟩ := h; exact cw_skip ⟨rfl, rfl⟩
    | ret => simp only [codeE, Option.some.injEq, Prod.mk.injEq] at h; obtain ⟨rfl, rfl⟩ := h; exact cw_ret ⟨rfl, rfl⟩
    | exit i => simp only [codeE, Option.some.injEq, Prod.mk.injEq] at h; obtain ⟨rfl, rfl⟩ := h; exact cw_exit ⟨rfl, rfl⟩
    | _ => simp [codeE] at h
theorem fnE_sound (T : TyOk P ty) {n : Nat} {more : Run → Run} (hm : ∀ run, RunOk P run → RunOk P (more run)) : ∀ d, RunOk P (fnE P ty n more d) := by
  intro d
  induction d with
  | zero => intro f args h v h' hx; simp [fnE] at hx
  | succ d ih =>
    intro f args h v h' hx
    simp only [fnE] at hx
    split at hx
    · rename_i r hr
      simp at hx; subst hx
      exact hm _ ih f args h v h' hr
    · split at hx
      · rename_i fn hf
        split at hx
        · rename_i c hb
          split at hx
          · rename_i hn hl
            refine fn_intro T hf hb hn (Nat.le_of_ble_eq_true hl) ?_
            split at hx
            · rename_i s hs
              split at hx
              · rename_i u hu
                simp at hx; obtain ⟨rfl, rfl⟩ := hx
                refine (codeE_sound T ih _ _ _ _ _ hs).mono ?_
                rintro _ _ ⟨rfl, rfl⟩
                exact ⟨.inl rfl, _, _, _, hu, Ret.refl _ _ _, rfl, rfl⟩
              · simp at hx
            · rename_i s hs
              split at hx
              · rename_i u hu
                simp at hx; obtain ⟨rfl, rfl⟩ := hx
                refine (codeE_sound T ih _ _ _ _ _ hs).mono ?_
                rintro _ _ ⟨rfl, rfl⟩
                exact ⟨.inr rfl, _, _, _, hu, Ret.refl _ _ _, rfl, rfl⟩
              · simp at hx
            · simp at hx
          · simp at hx
        · simp at hx
      · simp at hx
end Go.Sx
