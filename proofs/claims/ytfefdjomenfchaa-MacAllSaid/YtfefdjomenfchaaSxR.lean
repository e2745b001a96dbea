/-
  Sx, part R: the walk's own words: what is asked comes out as a part of the goal. Own words; no condition.
-/
import Derived.Test.YtfefdjomenfchaaSxP
namespace Go.Sx
open Go

/-- The same, as a proved thing. -/
theorem nd.{u} {α : Sort u} {a b : α} (h : a = b) : a = b := h
/-- There is an answer, and K holds of it. -/
def req {α : Type} (o : Option α) (K : α → Prop) : Prop :=
  match o with
  | some v => K v
  | none => False
@[congr] theorem req_head {α : Type} {x y : Option α} {K : α → Prop} (h : x = y) : req x K = req y K := by rw [h]
@[congr] theorem bind_head {α β : Type} {x y : Option α} {f : α → Option β} (h : x = y) : x.bind f = y.bind f := by rw [h]
@[congr] theorem map_head {α β : Type} {x y : Option α} {f : α → β} (h : x = y) : x.map f = y.map f := by rw [h]
theorem req_some {α : Type} (v : α) (K : α → Prop) : req (some v) K = K v := nd rfl
theorem req_none {α : Type} (K : α → Prop) : req none K = False := nd rfl
theorem req_bind {α β : Type} (o : Option α) (f : α → Option β) (K : β → Prop) : req (o.bind f) K = req o fun v => req (f v) K := by cases o <;> rfl
theorem req_map {α β : Type} (o : Option α) (f : α → β) (K : β → Prop) : req (o.map f) K = req o fun v => K (f v) := by cases o <;> rfl
theorem req_ite {α : Type} (c : Prop) [Decidable c] (a : Option α) (K : α → Prop) : req (if c then a else none) K = (c ∧ req a K) := by
  by_cases h : c <;> simp [h, req_none]
theorem req_ite' {α : Type} (c : Prop) [Decidable c] (a : Option α) (K : α → Prop) : req (if c then none else a) K = (¬ c ∧ req a K) := by
  by_cases h : c <;> simp [h, req_none]
theorem req_get {α : Type} [Inhabited α] (l : List α) (k : Nat) (K : α → Prop) : req l[k]? K = (k < l.length ∧ K l[k]!) := by
  by_cases h : k < l.length
  · simp [h, req_some]
  · simp [h, req_none]
/-- What stands at a place of a row. -/
def ix {α : Type} [Inhabited α] (l : List α) (k : Nat) : α := l[k]!
theorem ix_eq {α : Type} [Inhabited α] {l : List α} {k : Nat} (h : k < l.length) : ix l k = l[k] := by simp [ix, h]
theorem ix_left {α : Type} [Inhabited α] {l m : List α} {k : Nat} (h : k < l.length) : ix (l ++ m) k = ix l k := by
  rw [ix_eq h, ix_eq (by simp; omega), List.getElem_append_left h]
theorem ix_some {α : Type} [Inhabited α] {l : List α} {k : Nat} {x : α} (h : l[k]? = some x) : ix l k = x := by simp [ix, h]
theorem req_iff {α : Type} (o : Option α) (K : α → Prop) : req o K ↔ ∃ v, o = some v ∧ K v := by cases o <;> simp [req]
/-- Both ways. -/
def two (b : Bool) (A B : Prop) : Prop := (b = true → A) ∧ (b = false → B)
theorem two_true (A B : Prop) : two true A B = A := by simp [two]
theorem two_false (A B : Prop) : two false A B = B := by simp [two]
theorem two_decide (c : Prop) [Decidable c] (A B : Prop) : two (decide c) A B = ((c → A) ∧ (¬ c → B)) := by simp [two]

def lo : IntKind → Int
  | .i64 => -9223372036854775808
  | .i32 => -2147483648
  | .i16 => -32768
  | .i8 => -128
  | _ => 0
def hi : IntKind → Int
  | .i64 => 9223372036854775807
  | .i32 => 2147483647
  | .i16 => 32767
  | .i8 => 127
  | .u64 => 18446744073709551615
  | .u32 => 4294967295
  | .u16 => 65535
  | .u8 => 255
theorem wrap_in {k : IntKind} {n : Int} (h1 : lo k ≤ n) (h2 : n ≤ hi k) : k.wrap n = n := by
  cases k <;> simp only [lo, hi] at h1 h2 <;> simp [IntKind.wrap, IntKind.bits, IntKind.signed] <;> omega
/-- Whether a kind's numbers are to stay within their bounds here (or else wrap). -/
abbrev Mode := IntKind → Bool
def exactI (X : Mode) (k : IntKind) (n : Int) : Option Value :=
  match X k with
  | true => if lo k ≤ n ∧ n ≤ hi k then some (.int k n) else none
  | false => some (.int k (k.wrap n))
theorem exactI_le {X : Mode} {k : IntKind} {n : Int} {v : Value} (h : exactI X k n = some v) : v = .int k (k.wrap n) := by
  unfold exactI at h
  split at h
  · split at h
    · rename_i hr; simp at h; rw [wrap_in hr.1 hr.2]; exact h.symm
    · simp at h
  · simp at h; exact h.symm
def binX (X : Mode) (op : BinOp) (d : TD) (x y : Value) : Option Value :=
  match op with
  | .add => match x with
    | .int k a => match y with
      | .int k' b => if k = k' then exactI X k (a + b) else none
      | _ => none
    | x => binC .add d x y
  | .sub => match x with
    | .int k a => match y with
      | .int k' b => if k = k' then exactI X k (a - b) else none
      | _ => none
    | x => binC .sub d x y
  | .mul => match x with
    | .int k a => match y with
      | .int k' b => if k = k' then exactI X k (a * b) else none
      | _ => none
    | x => binC .mul d x y
  | .quo => match x with
    | .int k a => match y with
      | .int k' b => match X k with
        | true => if k = k' ∧ 0 < b ∧ 0 ≤ a ∧ a ≤ hi k then some (.int k (a / b)) else none
        | false => binC .quo d (.int k a) (.int k' b)
      | _ => none
    | x => binC .quo d x y
  | .rem => match x with
    | .int k a => match y with
      | .int k' b => match X k with
        | true => if k = k' ∧ 0 < b ∧ 0 ≤ a then some (.int k (a % b)) else none
        | false => binC .rem d (.int k a) (.int k' b)
      | _ => none
    | x => binC .rem d x y
  | .shl => match x with
    | .int k a => match y with
      | .int k' b => match X k with
        | true => if 0 ≤ b ∧ b ≤ k.bits ∧ lo k ≤ a * 2 ^ b.toNat ∧ a * 2 ^ b.toNat ≤ hi k then some (.int k (a * 2 ^ b.toNat)) else none
        | false => binC .shl d (.int k a) (.int k' b)
      | _ => none
    | x => binC .shl d x y
  | .shr => match x with
    | .int k a => match y with
      | .int k' b => match X k with
        | true => if 0 ≤ b ∧ b ≤ k.bits then some (.int k (a / 2 ^ b.toNat)) else none
        | false => binC .shr d (.int k a) (.int k' b)
      | _ => none
    | x => binC .shr d x y
  | op => binC op d x y
theorem binX_le {X : Mode} {op : BinOp} {d : TD} {x y v : Value} (h : binX X op d x y = some v) : binC op d x y = some v := by
  unfold binX at h
  split at h
  · split at h
    · split at h
      · simp only [Option.ite_none_right_eq_some] at h
        obtain ⟨rfl, h⟩ := h
        simp [binC, intC, exactI_le h]
      · simp at h
    · exact h
  · split at h
    · split at h
      · simp only [Option.ite_none_right_eq_some] at h
        obtain ⟨rfl, h⟩ := h
        simp [binC, intC, exactI_le h]
      · simp at h
    · exact h
  · split at h
    · split at h
      · simp only [Option.ite_none_right_eq_some] at h
        obtain ⟨rfl, h⟩ := h
        simp [binC, intC, exactI_le h]
      · simp at h
    · exact h
  · split at h
    · split at h
      · split at h
        · simp only [Option.ite_none_right_eq_some, Option.some.injEq] at h
          obtain ⟨⟨rfl, h1, h2, h3⟩, rfl⟩ := h
          rename_i k a _ b _ _
          have e : a.tdiv b = a / b := Int.tdiv_eq_ediv_of_nonneg h2
          have h0 : 0 ≤ a / b := Int.ediv_nonneg h2 (by omega)
          have h4 : a / b ≤ a := Int.ediv_le_self _ h2
          have hl : lo k ≤ 0 := by cases k <;> simp [lo]
          simp only [binC, intC]
          rw [if_pos trivial, if_neg (by omega), e, wrap_in (by omega) (by omega)]
        · exact h
      · simp at h
    · exact h
  · split at h
    · split at h
      · split at h
        · simp only [Option.ite_none_right_eq_some, Option.some.injEq] at h
          obtain ⟨⟨rfl, h1, h2⟩, rfl⟩ := h
          simp only [binC, intC]
          rw [if_pos trivial, if_neg (by omega), Int.tmod_eq_emod_of_nonneg h2]
        · exact h
      · simp at h
    · exact h
  · split at h
    · split at h
      · split at h
        · simp only [Option.ite_none_right_eq_some, Option.some.injEq] at h
          obtain ⟨⟨h1, h2, h3, h4⟩, rfl⟩ := h
          simp only [binC]
          rw [if_pos h1, Nat.min_eq_left (by omega), wrap_in h3 h4]
        · exact h
      · simp at h
    · exact h
  · split at h
    · split at h
      · split at h
        · simp only [Option.ite_none_right_eq_some, Option.some.injEq] at h
          obtain ⟨⟨h1, h2⟩, rfl⟩ := h
          simp only [binC]
          rw [if_pos h1, Nat.min_eq_left (by omega), Int.fdiv_eq_ediv_of_nonneg _ (by exact Int.le_of_lt (Int.pow_pos (by decide)))]
        · exact h
      · simp at h
    · exact h
  · exact h
def unX (X : Mode) (op : UnOp) (x : Value) : Option Value :=
  match op with
  | .neg => match x with
    | .int k n => exactI X k (0 - n)
    | _ => none
  | op => unC op x
theorem unX_le {X : Mode} {op : UnOp} {x v : Value} (h : unX X op x = some v) : unC op x = some v := by
  unfold unX at h
  split at h
  · split at h
    · simp [unC, exactI_le h]
    · simp at h
  · exact h
def convX (X : Mode) (ty : TypeId → Option TD) (h : Heap) (s t : TypeId) (x : Value) : Option Value :=
  match x with
  | .int _ n => (ty t).bind fun d => (ty s).bind fun _ => match d.desc with
    | .int k => exactI X k n
    | _ => none
  | x => convC ty h s t x
theorem convX_le {X : Mode} {ty : TypeId → Option TD} {h : Heap} {s t : TypeId} {x v : Value} (q : convX X ty h s t x = some v) : convC ty h s t x = some v := by
  unfold convX at q
  split at q
  · simp only [Option.bind_eq_some_iff] at q
    obtain ⟨d, hd, ds, hds, q⟩ := q
    simp only [convC, hd, hds, Option.bind_some]
    split at q
    · rename_i k hk; rw [hk]; simp [exactI_le q]
    · simp at q
  · exact q
noncomputable section
def semX (X : Mode) (ty : TypeId → Option TD) (o : Op) (s : List (Nat × Ent)) (hp : Heap) : Option Value :=
  match o with
  | .binOp op t x y _ => (ty t).bind fun d => (ev true s x).bind fun a => (ev true s y).bind fun b => binX X op d a b
  | .unOp op _ x => (ev true s x).bind fun a => unX X op a
  | .convert src t x => (ev true s x).bind fun a => convX X ty hp src t a
  | o => semP ty true o s hp
end
theorem semX_le {X : Mode} {ty : TypeId → Option TD} {o : Op} {s : List (Nat × Ent)} {hp : Heap} {v : Value} (h : semX X ty o s hp = some v) : semP ty true o s hp = some v := by
  unfold semX at h
  split at h
  · simp only [Option.bind_eq_some_iff] at h
    obtain ⟨d, hd, a, ha, b, hb, h⟩ := h
    simp only [semP, hd, ha, hb, Option.bind_some, binX_le h]
  · simp only [Option.bind_eq_some_iff] at h
    obtain ⟨a, ha, h⟩ := h
    simp only [semP, ha, Option.bind_some, unX_le h]
  · simp only [Option.bind_eq_some_iff] at h
    obtain ⟨a, ha, h⟩ := h
    simp only [semP, ha, Option.bind_some, convX_le h]
  · exact h
end Go.Sx
