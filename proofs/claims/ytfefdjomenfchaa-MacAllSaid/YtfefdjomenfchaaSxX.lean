/-
  Sx, part X: running code on canonical states; what a run gives is what a call gives. Own words; no condition.
-/
import Derived.Test.YtfefdjomenfchaaSxV
import Derived.LoopN
namespace Go.Sx
open Go
noncomputable section
section
variable (P : Program) (ty : TypeId → Option TD) (N : Nat)
/-- A call, as it is run. -/
abbrev Run := FuncId → List Value → Heap → Option (Value × Heap)
def setT (t : Nat) (e : Ent) : List (Nat × Ent) → List (Nat × Ent)
  | [] => [(t, e)]
  | (a, x) :: r => match Nat.beq a t with
    | true => (a, e) :: r
    | false => (a, x) :: setT t e r
def setD (d : Option Tmp) (e : Ent) (tm : List (Nat × Ent)) : List (Nat × Ent) :=
  match d with
  | some t => setT t e tm
  | none => tm
def execE (run : Run) (o : Op) (s : St) : Option (Value × Heap) :=
  match callee s.tm o with
  | some p => run p.1 p.2 s.h
  | none => match kindA ty o with
    | true => semA ty o s.tm s.h
    | false => match semP ty true o s.tm s.h with
      | some v => some (v, s.h)
      | none => none
def stepE (run : Run) (all : List Oper) (o : Oper) (s : St) : Option St :=
  match dstOk N o with
  | false => none
  | true => match o.guard with
    | none => match execE ty run o.op s with
      | some (v, h') => some ⟨setD o.dst (.v v) s.tm, h'⟩
      | none => none
    | some g => match guardSlot all g with
      | none => none
      | some t => match (lk s.tm t).bind guardW with
        | none => none
        | some none => some ⟨setD o.dst (.v undef) s.tm, s.h⟩
        | some (some b) => match b == g.2 with
          | true => match execE ty run o.op s with
            | some (v, h') => some ⟨setD o.dst (.v v) s.tm, h'⟩
            | none => none
          | false => some ⟨setD o.dst (.v undef) s.tm, s.h⟩
def opsE (run : Run) (all : List Oper) : List Oper → St → Option St
  | [], s => some s
  | o :: os, s => match stepE ty N run all o s with
    | some s' => opsE run all os s'
    | none => none
end
end
variable {P : Program} {ty : TypeId → Option TD} {N : Nat}
/-- What is run is so. -/
def RunOk (P : Program) (run : Run) : Prop := ∀ f args h v h', run f args h = some (v, h') → Fn P f args h fun r g => r = v ∧ g = h'
theorem lk_setT (t : Nat) (e : Ent) : ∀ (tm : List (Nat × Ent)) (u : Nat), lk (setT t e tm) u = if t = u then some e else lk tm u
  | [], u => by simp [setT, lk]
  | (a, x) :: r, u => by
    unfold setT
    split
    · rename_i hb
      have := Nat.eq_of_beq_eq_true hb
      subst this
      by_cases hu : a = u <;> simp [lk, hu]
    · rename_i hb
      have := Nat.ne_of_beq_eq_false hb
      by_cases hu : a = u
      · subst hu; simp [lk, Ne.symm this]
      · simp [lk, hu, lk_setT t e r u]
theorem lk_setD (d : Option Tmp) (e : Ent) (tm : List (Nat × Ent)) (t : Nat) : lk (setD d e tm) t = lk (put d e tm) t := by
  cases d with
  | none => rfl
  | some u => rw [setD, lk_setT, lk_put]; simp
theorem Goes.slots {ι : List Place} {h : Heap} {w : World} {d : Option Tmp} {e : Ent} {tm : List (Nat × Ent)} {h' : Heap} {a' : Act} {w' : World}
    (g : Goes ι h w N (fun z => z = ⟨put d e tm, h'⟩) a' w') : Goes ι h w N (fun z => z = ⟨setD d e tm, h'⟩) a' w' := by
  obtain ⟨κ, s', rfl, L, g⟩ := g
  exact ⟨κ, _, rfl, Like.byNumber (fun t => lk_setD d e tm t) L, g⟩
theorem execE_exec {run : Run} (hr : RunOk P run) {o : Oper} {s : St} {v : Value} {h' : Heap} (h : execE ty run o.op s = some (v, h')) : exec P ty o (fun z => z = ⟨put o.dst (.v v) s.tm, h'⟩) s := by
  unfold execE at h
  unfold exec
  split at h
  · rename_i p hc
    obtain ⟨f, args⟩ := p
    simp only [hc]
    exact CallK.of (hr f args s.h v h' h) fun _ _ ⟨a, b⟩ => by rw [a, b]
  · rename_i hc
    simp only [hc]
    split at h
    · simp only [h]
    · rename_i hA
      split at h
      · rename_i v' hv
        simp only [Option.some.injEq, Prod.mk.injEq] at h
        obtain ⟨rfl, rfl⟩ := h
        simp only [semA_none hA, hv]
      · simp at h
theorem stepE_sound (T : TyOk P ty) {run : Run} (hr : RunOk P run) {ι : List Place} {s s' : St} {a : Act} {w : World} (L : Like ι s N a w) {ops : Array Oper} {o : Oper} (h : stepE ty N run ops.toList o s = some s') (Q : Exit → Act → World → Prop) :
    if Region.wanted o (yielded ops a.tmps) then o.wp P a w (Goes ι s.h w N (fun z => z = s')) Q else Goes ι s.h w N (fun z => z = s') (a.put o.dst undef) w := by
  unfold stepE at h
  split at h
  · simp at h
  · rename_i hd
    have hlt := dstOk_lt hd
    have skip : Goes ι s.h w N (fun z => z = ⟨setD o.dst (.v undef) s.tm, s.h⟩) (a.put o.dst undef) w :=
      Goes.slots ⟨ι, _, rfl, ⟨L.1, L.2.put hlt undef_VR⟩, .refl _ _ _⟩
    have run1 : ∀ v h', execE ty run o.op s = some (v, h') → o.wp P a w (Goes ι s.h w N (fun z => z = ⟨setD o.dst (.v v) s.tm, h'⟩)) Q := fun v h' hx =>
      Oper.wp_mono (fun _ _ g => g.slots) (exec_sound T L hd (execE_exec hr hx) Q)
    split at h
    · rename_i hg
      rw [if_pos (by simp [Region.wanted, hg])]
      split at h
      · rename_i v h' hx
        simp at h; subst h
        exact run1 v h' hx
      · simp at h
    · rename_i g hg
      split at h
      · simp at h
      · rename_i t ht
        split at h
        · simp at h
        · rename_i hb
          simp only [Option.bind_eq_some_iff] at hb
          obtain ⟨e, he, hb⟩ := hb
          obtain ⟨vs, rfl⟩ := guardW_none hb
          obtain ⟨_, w2⟩ := wanted_of L.2 hg ht he
          rw [w2 vs rfl, if_neg (by decide)]
          simp at h; subst h
          exact skip
        · rename_i b hb
          simp only [Option.bind_eq_some_iff] at hb
          obtain ⟨e, he, hb⟩ := hb
          obtain rfl := guardW_some hb
          obtain ⟨w1, _⟩ := wanted_of L.2 hg ht he
          rw [w1 b rfl]
          split at h
          · rename_i hw
            rw [if_pos hw]
            split at h
            · rename_i v h' hx
              simp at h; subst h
              exact run1 v h' hx
            · simp at h
          · rename_i hw
            rw [if_neg (by rw [hw]; decide)]
            simp at h; subst h
            exact skip
theorem opsE_sound (T : TyOk P ty) {run : Run} (hr : RunOk P run) {ops : Array Oper} {Q : Exit → Act → World → Prop} : ∀ (l : List Oper) {s s' : St} {ι : List Place} {a : Act} {w : World}, Like ι s N a w → opsE ty N run ops.toList l s = some s' →
    (∀ a' w', Goes ι s.h w N (fun z => z = s') a' w' → Q .normal a' w') → wpList P ops Q l a w
  | [], s, s', ι, a, w, L, h, hQ => by
    simp only [opsE, Option.some.injEq] at h; subst h
    exact hQ a w ⟨ι, s, rfl, L, .refl _ _ _⟩
  | o :: os, s, s', ι, a, w, L, h, hQ => by
    simp only [opsE] at h
    split at h
    · rename_i s1 h1
      refine wpList_step fun K' hK' => ?_
      have hs := stepE_sound T hr L (ops := ops) h1 Q
      have next : ∀ a' w', Goes ι s.h w N (fun z => z = s1) a' w' → K' a' w' := by
        rintro a' w' ⟨κ, _, rfl, L', g⟩
        exact hK' _ _ (opsE_sound T hr os L' h fun a'' w'' q => hQ a'' w'' (Goes.trans g q))
      split
      · rename_i hw; rw [if_pos hw] at hs; exact Oper.wp_mono next hs
      · rename_i hw; rw [if_neg hw] at hs; exact next _ _ hs
    · simp at h
end Go.Sx
