/-
  Sx, part S: rows of operations by the walk's own words. Own words; no condition.
-/
import Derived.Test.YtfefdjomenfchaaSxQ
namespace Go.Sx
open Go
section
variable (P : Program) (X : Mode) (ty : TypeId → Option TD) (N : Nat)
/-- Whether an operation makes or turns blocks. -/
def kindA (o : Op) : Bool :=
  match o with
  | .alloc _ => true
  | .box _ _ => true
  | .buildSlice _ _ _ => true
  | .makeSlice _ _ _ => true
  | .store _ _ _ => true
  | .convert _ t _ => match ty t with
    | some d => match d.desc with
      | .slice _ => true
      | _ => false
    | none => false
  | .call c => match c.callee with
    | .builtin .append => true
    | .builtin .copy => true
    | _ => false
  | _ => false
def execR (o : Oper) (K : St → Prop) (s : St) : Prop :=
  match callee s.tm o.op with
  | some p => CallK P p.1 p.2 s.h o.dst s.tm K
  | none => match kindA ty o.op with
    | true => req (semA ty o.op s.tm s.h) fun p => K ⟨put o.dst (.v p.1) s.tm, p.2⟩
    | false => req (semX X ty o.op s.tm s.h) fun v => K ⟨put o.dst (.v v) s.tm, s.h⟩
/-- A guard's answer: a bool, or nothing (it was itself not wanted). -/
def guardW (e : Ent) : Option (Option Bool) :=
  match e with
  | .v x => match x with
    | .bool b => some (some b)
    | .tuple _ => some none
    | _ => none
  | .g _ _ => none
def upd (t : Nat) (v : Ent) : List (Nat × Ent) → List (Nat × Ent)
  | [] => []
  | (a, x) :: r => if a = t then (a, v) :: r else (a, x) :: upd t v r
def guardSlot (all : List Oper) (g : Nat × Bool) : Option Nat := (all[g.1]?).bind fun o => o.dst
def stepR (all : List Oper) (o : Oper) (K : St → Prop) (s : St) : Prop :=
  match dstOk N o with
  | true => match o.guard with
    | none => execR P X ty o K s
    | some g => req (guardSlot all g) fun t => req ((lk s.tm t).bind guardW) fun b => match b with
      | some b => two (b == g.2) (execR P X ty o K s) (K ⟨put o.dst (.v undef) s.tm, s.h⟩)
      | none => K ⟨put o.dst (.v undef) s.tm, s.h⟩
  | false => False
def copsR (all : List Oper) : List Oper → (St → Prop) → St → Prop
  | [], K, s => K s
  | o :: os, K, s => stepR P X ty N all o (copsR all os K) s
/-- Those slots alone. -/
def keepT : List Nat → List (Nat × Ent) → List (Nat × Ent)
  | [], _ => []
  | t :: r, tm => match lk tm t with
    | some e => (t, e) :: keepT r tm
    | none => keepT r tm
end
variable {P : Program} {X : Mode} {ty : TypeId → Option TD} {N : Nat}
theorem semA_none {o : Op} (h : kindA ty o = false) (tm : List (Nat × Ent)) (hp : Heap) : semA ty o tm hp = none := by
  cases o with
  | call c =>
    obtain ⟨cl, args, ats⟩ := c
    cases cl with
    | builtin b => cases b <;> first | (simp [kindA] at h; done) | rfl
    | _ => rfl
  | convert s t x =>
    simp only [kindA] at h
    simp only [semA]
    cases hs : ty s with
    | none => rfl
    | some ds =>
      cases ht : ty t with
      | none => rfl
      | some d =>
        rw [ht] at h
        simp only at h
        simp only [Option.bind_some]
        split
        · rename_i e hk; rw [hk] at h; simp at h
        · rfl
  | _ => first | (simp [kindA] at h; done) | rfl
theorem execR_exec {o : Oper} {K : St → Prop} {s : St} (h : execR P X ty o K s) : exec P ty o K s := by
  unfold execR at h
  unfold exec
  split at h
  · rename_i p hc
    obtain ⟨f, args⟩ := p
    simp only [hc]; exact h
  · rename_i hc
    simp only [hc]
    split at h
    · obtain ⟨p, hp, hk⟩ := (req_iff _ _).1 h
      simp only [hp]; exact hk
    · rename_i hA
      obtain ⟨v, hv, hk⟩ := (req_iff _ _).1 h
      simp only [semA_none hA, semX_le hv]; exact hk
theorem lk_upd (t : Nat) (v : Ent) : ∀ (tm : List (Nat × Ent)) (u : Nat), lk (upd t v tm) u = if u = t ∧ (lk tm t).isSome then some v else lk tm u
  | [], u => by simp [upd, lk]
  | (a, x) :: r, u => by
    unfold upd
    by_cases h : a = t
    · subst h
      rw [if_pos rfl]
      by_cases hu : a = u
      · subst hu; simp [lk]
      · simp [lk, hu, Ne.symm hu]
    · rw [if_neg h]
      by_cases hu : a = u
      · subst hu; simp [lk, h]
      · simp [lk, h, hu, lk_upd t v r u]
theorem lk_upd_same {t : Nat} {v : Ent} {tm : List (Nat × Ent)} (h : lk tm t = some v) (u : Nat) : lk (upd t v tm) u = lk tm u := by
  rw [lk_upd]
  by_cases hu : u = t
  · subst hu; simp [h]
  · simp [hu]
theorem guardW_some {e : Ent} {b : Bool} (h : guardW e = some (some b)) : e = .v (.bool b) := by
  unfold guardW at h
  split at h
  · split at h
    · simp at h; subst h; rfl
    · simp at h
    · simp at h
  · simp at h
theorem guardW_none {e : Ent} (h : guardW e = some none) : ∃ vs, e = .v (.tuple vs) := by
  unfold guardW at h
  split at h
  · split at h
    · simp at h
    · exact ⟨_, rfl⟩
    · simp at h
  · simp at h
theorem wanted_of {ι : List Place} {tm : List (Nat × Ent)} {a : Act} (R : RelT ι tm N a) {ops : Array Oper} {g : Nat × Bool} {o : Oper} (hg : o.guard = some g) {t : Nat} (ht : guardSlot ops.toList g = some t) {e : Ent} (he : lk tm t = some e) :
    (∀ b, e = .v (.bool b) → Region.wanted o (yielded ops a.tmps) = (b == g.2)) ∧ (∀ vs, e = .v (.tuple vs) → Region.wanted o (yielded ops a.tmps) = false) := by
  obtain ⟨y, hy, hr⟩ := R.2.2 t e he
  obtain ⟨j, want⟩ := g
  simp only [guardSlot, Array.getElem?_toList, Option.bind_eq_some_iff] at ht
  obtain ⟨oj, hoj, ht⟩ := ht
  unfold Region.wanted
  rw [hg]
  simp only
  unfold yielded
  rw [hoj]
  simp only [Option.bind_some, ht, hy]
  constructor
  · rintro b rfl
    obtain rfl := VR.bool_inv hr
    simp
  · rintro vs rfl
    obtain ⟨ys, rfl, _⟩ := VR.tuple_inv hr
    simp
theorem stepR_sound (T : TyOk P ty) {ι : List Place} {s : St} {a : Act} {w : World} (L : Like ι s N a w) {ops : Array Oper} {o : Oper} {K : St → Prop} (h : stepR P X ty N ops.toList o K s) (Q : Exit → Act → World → Prop) :
    if Region.wanted o (yielded ops a.tmps) then o.wp P a w (Goes ι s.h w N K) Q else Goes ι s.h w N K (a.put o.dst undef) w := by
  unfold stepR at h
  split at h
  · rename_i hd
    have hlt := dstOk_lt hd
    have skip : ∀ tm, (∀ t, lk tm t = lk s.tm t) → K ⟨put o.dst (.v undef) tm, s.h⟩ → Goes ι s.h w N K (a.put o.dst undef) w := fun tm e hk =>
      ⟨ι, _, hk, ⟨L.1, (Like.byNumber (h := s.h) e L).2.put hlt undef_VR⟩, .refl _ _ _⟩
    split at h
    · rename_i hg
      rw [if_pos (by simp [Region.wanted, hg])]
      exact exec_sound T L hd (execR_exec h) Q
    · rename_i g hg
      obtain ⟨t, ht, h⟩ := (req_iff _ _).1 h
      obtain ⟨b, hb, h⟩ := (req_iff _ _).1 h
      simp only [Option.bind_eq_some_iff] at hb
      obtain ⟨e, he, hb⟩ := hb
      obtain ⟨w1, w2⟩ := wanted_of L.2 hg ht he
      split at h
      · rename_i b
        obtain rfl := guardW_some hb
        rw [w1 b rfl]
        obtain ⟨h1, h2⟩ := h
        split
        · rename_i hw
          have hbg : b = g.2 := by simpa using hw
          subst hbg
          exact exec_sound T L hd (execR_exec (h1 (by simp))) Q
        · rename_i hw
          have hbg : b = !g.2 := by revert hw; cases b <;> cases g.2 <;> simp
          subst hbg
          exact skip _ (fun _ => rfl) (h2 (by simp))
      · obtain ⟨vs, rfl⟩ := guardW_none hb
        rw [w2 vs rfl, if_neg (by decide)]
        exact skip _ (fun _ => rfl) h
  · exact h.elim
theorem copsR_sound (T : TyOk P ty) {ops : Array Oper} {Q : Exit → Act → World → Prop} : ∀ (l : List Oper) {K : St → Prop} {s : St} {ι : List Place} {a : Act} {w : World}, Like ι s N a w → copsR P X ty N ops.toList l K s →
    (∀ a' w', Goes ι s.h w N K a' w' → Q .normal a' w') → wpList P ops Q l a w
  | [], K, s, ι, a, w, L, h, hQ => hQ a w ⟨ι, s, h, L, .refl _ _ _⟩
  | o :: os, K, s, ι, a, w, L, h, hQ => by
    refine wpList_step fun K' hK' => ?_
    have hs := stepR_sound T L (ops := ops) h Q
    have next : ∀ a' w', Goes ι s.h w N (copsR P X ty N ops.toList os K) a' w' → K' a' w' := by
      rintro a' w' ⟨κ, s', hk, L', g⟩
      exact hK' _ _ (copsR_sound T os L' hk fun a'' w'' q => hQ a'' w'' (Goes.trans g q))
    split
    · rename_i hw; rw [if_pos hw] at hs; exact Oper.wp_mono next hs
    · rename_i hw; rw [if_neg hw] at hs; exact next _ _ hs
theorem keepT_lk (tm : List (Nat × Ent)) : ∀ (ks : List Nat) (t : Nat) (e : Ent), lk (keepT ks tm) t = some e → lk tm t = some e
  | [], t, e, h => by simp [keepT, lk] at h
  | k :: r, t, e, h => by
    unfold keepT at h
    split at h
    · rename_i e' he
      simp only [lk] at h
      split at h
      · rename_i hk; subst hk; rw [he]; exact h
      · exact keepT_lk tm r t e h
    · exact keepT_lk tm r t e h
theorem Goes.kept {ι : List Place} {h : Heap} {w : World} {K : St → Prop} {a' : Act} {w' : World} {ks : List Nat} (g : Goes ι h w N (fun s => K ⟨keepT ks s.tm, s.h⟩) a' w') : Goes ι h w N K a' w' := by
  obtain ⟨κ, s', hk, L, g⟩ := g
  exact ⟨κ, ⟨keepT ks s'.tm, s'.h⟩, hk, ⟨L.1, L.2.1, L.2.2.1, fun t e he => L.2.2.2 t e (keepT_lk _ _ _ _ he)⟩, g⟩
/-- A region: of its slots, those that ks names are told. -/
theorem cw_ops (T : TyOk P ty) (X : Mode) (ks : List Nat) {id : Nat} {ops : Array Oper} {s : St} {Q : Exit → St → Prop} (h : copsR P X ty N ops.toList ops.toList (fun s => Q .normal ⟨keepT ks s.tm, s.h⟩) s) : CW P N (.region id ops false) s Q :=
  fun _ _ _ L => wp_region_list (copsR_sound T _ L h fun _ _ q => q.kept)
theorem Weak.refl (s : St) : Weak s s := ⟨Nat.le_refl _, fun _ _ h => ⟨h, .inl rfl⟩, fun _ _ h => ⟨h, .inl rfl⟩⟩
/-- A loop: at its head I holds, with a number that each round lowers. -/
theorem cw_while {c : Code} {s : St} {Q : Exit → St → Prop} (I : Nat → St → Prop) (n : Nat) (h0 : I n s)
    (round : ∀ n s, I n s → CW P N c s (thenC (fun s' => ∃ m, m < n ∧ I m s' ∧ s.h.length ≤ s'.h.length) Q)) : CW P N (.loop c) s Q :=
  cw_loop I n s h0 (.refl s) rfl fun n s h => (round n s h).mono fun e s' q => by
    cases e with
    | normal => obtain ⟨m, h1, h2, h3⟩ := q; exact ⟨m, s', h1, h2, .refl s', h3⟩
    | _ => exact q
/-- Cells filled from the front on. -/
theorem front_step {α : Type} (f : Nat → α) (z : α) (n i : Nat) (h : i < n) : ((List.range i).map f ++ List.replicate (n - i) z).set i (f i) = (List.range (i + 1)).map f ++ List.replicate (n - (i + 1)) z := by
  rw [List.set_append_right _ _ (by simp), List.range_succ]
  obtain ⟨k, hk⟩ : ∃ k, n - i = k + 1 := ⟨n - i - 1, by omega⟩
  rw [hk, show n - (i + 1) = k by omega]
  simp [List.replicate_succ]
/-- A round's end. -/
theorem round_end {I : Nat → St → Prop} {n l : Nat} {s' : St} {Q : Exit → St → Prop} (m : Nat) (h1 : m < n) (h2 : I m s') (h3 : l ≤ s'.h.length) : thenC (fun s' => ∃ m, m < n ∧ I m s' ∧ l ≤ s'.h.length) Q .normal s' := ⟨m, h1, h2, h3⟩
/-- A region, and what follows it. -/
theorem cw_step (T : TyOk P ty) (X : Mode) (ks : List Nat) {id : Nat} {ops : Array Oper} {b : Code} {s : St} {Q : Exit → St → Prop} (h : ∀ K : St → Prop, (∀ s, CW P N b s Q → K s) → copsR P X ty N ops.toList ops.toList (fun s => K ⟨keepT ks s.tm, s.h⟩) s) : CW P N (.seq (.region id ops false) b) s Q :=
  cw_seq fun K hK => cw_ops T X ks (h K hK)
/-- A region, and nothing more. -/
theorem cw_last (T : TyOk P ty) (X : Mode) (ks : List Nat) {id : Nat} {ops : Array Oper} {s : St} {Q : Exit → St → Prop} (h : ∀ K : St → Prop, (∀ s, Q .normal s → K s) → copsR P X ty N ops.toList ops.toList (fun s => K ⟨keepT ks s.tm, s.h⟩) s) : CW P N (.region id ops false) s Q :=
  cw_ops T X ks (h _ fun _ q => q)
end Go.Sx
