/-
  Walks by Sx; no condition beyond those that stand in each statement.
-/
import Derived.Test.YtfjdbhgnnpmceaaSxb4
import Derived.Laws.BitsAllLaws
import Derived.Laws.Bits64
import Derived.Laws.Bits64b
section
/-
  Sx, part R: the walk's own words: what is asked comes out as a part of the goal. Own words; no condition.
-/
namespace Go.Sx
open Go

/-- The same, as a proved thing. -/
theorem nd.{u} {α : Sort u} {a b : α} (h : a = b) : a = b := h
/-- There is an answer, and K holds of it. -/
def req {α : Type} (o : Option α) (K : α → Prop) : Prop :=
  match o with
  | some v => K v
  | none => False
@[congr] theorem req_head {α : Type} {x y : Option α} {K : α → Prop} (h : x = y) : req x K = req y K := by rw [h]
@[congr] theorem bind_head {α β : Type} {x y : Option α} {f : α → Option β} (h : x = y) : x.bind f = y.bind f := by rw [h]
@[congr] theorem map_head {α β : Type} {x y : Option α} {f : α → β} (h : x = y) : x.map f = y.map f := by rw [h]
theorem req_some {α : Type} (v : α) (K : α → Prop) : req (some v) K = K v := nd rfl
theorem req_none {α : Type} (K : α → Prop) : req none K = False := nd rfl
theorem req_bind {α β : Type} (o : Option α) (f : α → Option β) (K : β → Prop) : req (o.bind f) K = req o fun v => req (f v) K := by cases o <;> rfl
theorem req_map {α β : Type} (o : Option α) (f : α → β) (K : β → Prop) : req (o.map f) K = req o fun v => K (f v) := by cases o <;> rfl
theorem req_ite {α : Type} (c : Prop) [Decidable c] (a : Option α) (K : α → Prop) : req (if c then a else none) K = (c ∧ req a K) := by
  by_cases h : c <;> simp [h, req_none]
theorem req_ite' {α : Type} (c : Prop) [Decidable c] (a : Option α) (K : α → Prop) : req (if c then none else a) K = (¬ c ∧ req a K) := by
  by_cases h : c <;> simp [h, req_none]
theorem req_get {α : Type} [Inhabited α] (l : List α) (k : Nat) (K : α → Prop) : req l[k]? K = (k < l.length ∧ K l[k]!) := by
  by_cases h : k < l.length
  · simp [h, req_some]
  · simp [h, req_none]
/-- What stands at a place of a row. -/
def ix {α : Type} [Inhabited α] (l : List α) (k : Nat) : α := l[k]!
theorem ix_eq {α : Type} [Inhabited α] {l : List α} {k : Nat} (h : k < l.length) : ix l k = l[k] := by simp [ix, h]
theorem ix_left {α : Type} [Inhabited α] {l m : List α} {k : Nat} (h : k < l.length) : ix (l ++ m) k = ix l k := by
  rw [ix_eq h, ix_eq (by simp; omega), List.getElem_append_left h]
theorem ix_some {α : Type} [Inhabited α] {l : List α} {k : Nat} {x : α} (h : l[k]? = some x) : ix l k = x := by simp [ix, h]
theorem req_iff {α : Type} (o : Option α) (K : α → Prop) : req o K ↔ ∃ v, o = some v ∧ K v := by cases o <;> simp [req]
/-- Both ways. -/
def two (b : Bool) (A B : Prop) : Prop := (b = true → A) ∧ (b = false → B)
theorem two_true (A B : Prop) : two true A B = A := by simp [two]
theorem two_false (A B : Prop) : two false A B = B := by simp [two]
theorem two_decide (c : Prop) [Decidable c] (A B : Prop) : two (decide c) A B = ((c → A) ∧ (¬ c → B)) := by simp [two]

def lo : IntKind → Int
  | .i64 => -9223372036854775808
  | .i32 => -2147483648
  | .i16 => -32768
  | .i8 => -128
  | _ => 0
def hi : IntKind → Int
  | .i64 => 9223372036854775807
  | .i32 => 2147483647
  | .i16 => 32767
  | .i8 => 127
  | .u64 => 18446744073709551615
  | .u32 => 4294967295
  | .u16 => 65535
  | .u8 => 255
theorem wrap_in {k : IntKind} {n : Int} (h1 : lo k ≤ n) (h2 : n ≤ hi k) : k.wrap n = n := by
  cases k <;> simp only [lo, hi] at h1 h2 <;> simp [IntKind.wrap, IntKind.bits, IntKind.signed] <;> omega
/-- Whether a kind's numbers are to stay within their bounds here (or else wrap). -/
abbrev Mode := IntKind → Bool
def exactI (X : Mode) (k : IntKind) (n : Int) : Option Value :=
  match X k with
  | true => if lo k ≤ n ∧ n ≤ hi k then some (.int k n) else none
  | false => some (.int k (k.wrap n))
theorem exactI_le {X : Mode} {k : IntKind} {n : Int} {v : Value} (h : exactI X k n = some v) : v = .int k (k.wrap n) := by
  unfold exactI at h
  split at h
  · split at h
    · rename_i hr; simp at h; rw [wrap_in hr.1 hr.2]; exact h.symm
    · simp at h
  · simp at h; exact h.symm
def binX (X : Mode) (op : BinOp) (d : TD) (x y : Value) : Option Value :=
  match op with
  | .add => match x with
    | .int k a => match y with
      | .int k' b => if k = k' then exactI X k (a + b) else none
      | _ => none
    | x => binC .add d x y
  | .sub => match x with
    | .int k a => match y with
      | .int k' b => if k = k' then exactI X k (a - b) else none
      | _ => none
    | x => binC .sub d x y
  | .mul => match x with
    | .int k a => match y with
      | .int k' b => if k = k' then exactI X k (a * b) else none
      | _ => none
    | x => binC .mul d x y
  | .quo => match x with
    | .int k a => match y with
      | .int k' b => match X k with
        | true => if k = k' ∧ 0 < b ∧ 0 ≤ a ∧ a ≤ hi k then some (.int k (a / b)) else none
        | false => binC .quo d (.int k a) (.int k' b)
      | _ => none
    | x => binC .quo d x y
  | .rem => match x with
    | .int k a => match y with
      | .int k' b => match X k with
        | true => if k = k' ∧ 0 < b ∧ 0 ≤ a then some (.int k (a % b)) else none
        | false => binC .rem d (.int k a) (.int k' b)
      | _ => none
    | x => binC .rem d x y
  | .shl => match x with
    | .int k a => match y with
      | .int k' b => match X k with
        | true => if 0 ≤ b ∧ b ≤ k.bits ∧ lo k ≤ a * 2 ^ b.toNat ∧ a * 2 ^ b.toNat ≤ hi k then some (.int k (a * 2 ^ b.toNat)) else none
        | false => binC .shl d (.int k a) (.int k' b)
      | _ => none
    | x => binC .shl d x y
  | .shr => match x with
    | .int k a => match y with
      | .int k' b => match X k with
        | true => if 0 ≤ b ∧ b ≤ k.bits then some (.int k (a / 2 ^ b.toNat)) else none
        | false => binC .shr d (.int k a) (.int k' b)
      | _ => none
    | x => binC .shr d x y
  | op => binC op d x y
theorem binX_le {X : Mode} {op : BinOp} {d : TD} {x y v : Value} (h : binX X op d x y = some v) : binC op d x y = some v := by
  unfold binX at h
  split at h
  · split at h
    · split at h
      · simp only [Option.ite_none_right_eq_some] at h
        obtain ⟨rfl, h⟩ := h
        simp [binC, intC, exactI_le h]
      · simp at h
    · exact h
  · split at h
    · split at h
      · simp only [Option.ite_none_right_eq_some] at h
        obtain ⟨rfl, h⟩ := h
        simp [binC, intC, exactI_le h]
      · simp at h
    · exact h
  · split at h
    · split at h
      · simp only [Option.ite_none_right_eq_some] at h
        obtain ⟨rfl, h⟩ := h
        simp [binC, intC, exactI_le h]
      · simp at h
    · exact h
  · split at h
    · split at h
      · split at h
        · simp only [Option.ite_none_right_eq_some, Option.some.injEq] at h
          obtain ⟨⟨rfl, h1, h2, h3⟩, rfl⟩ := h
          rename_i k a _ b _ _
          have e : a.tdiv b = a / b := Int.tdiv_eq_ediv_of_nonneg h2
          have h0 : 0 ≤ a / b := Int.ediv_nonneg h2 (by omega)
          have h4 : a / b ≤ a := Int.ediv_le_self _ h2
          have hl : lo k ≤ 0 := by cases k <;> simp [lo]
          simp only [binC, intC]
          rw [if_pos trivial, if_neg (by omega), e, wrap_in (by omega) (by omega)]
        · exact h
      · simp at h
    · exact h
  · split at h
    · split at h
      · split at h
        · simp only [Option.ite_none_right_eq_some, Option.some.injEq] at h
          obtain ⟨⟨rfl, h1, h2⟩, rfl⟩ := h
          simp only [binC, intC]
          rw [if_pos trivial, if_neg (by omega), Int.tmod_eq_emod_of_nonneg h2]
        · exact h
      · simp at h
    · exact h
  · split at h
    · split at h
      · split at h
        · simp only [Option.ite_none_right_eq_some, Option.some.injEq] at h
          obtain ⟨⟨h1, h2, h3, h4⟩, rfl⟩ := h
          simp only [binC]
          rw [if_pos h1, Nat.min_eq_left (by omega), wrap_in h3 h4]
        · exact h
      · simp at h
    · exact h
  · split at h
    · split at h
      · split at h
        · simp only [Option.ite_none_right_eq_some, Option.some.injEq] at h
          obtain ⟨⟨h1, h2⟩, rfl⟩ := h
          simp only [binC]
          rw [if_pos h1, Nat.min_eq_left (by omega), Int.fdiv_eq_ediv_of_nonneg _ (by exact Int.le_of_lt (Int.pow_pos (by decide)))]
        · exact h
      · simp at h
    · exact h
  · exact h
def unX (X : Mode) (op : UnOp) (x : Value) : Option Value :=
  match op with
  | .neg => match x with
    | .int k n => exactI X k (0 - n)
    | _ => none
  | op => unC op x
theorem unX_le {X : Mode} {op : UnOp} {x v : Value} (h : unX X op x = some v) : unC op x = some v := by
  unfold unX at h
  split at h
  · split at h
    · simp [unC, exactI_le h]
    · simp at h
  · exact h
def convX (X : Mode) (ty : TypeId → Option TD) (h : Heap) (s t : TypeId) (x : Value) : Option Value :=
  match x with
  | .int _ n => (ty t).bind fun d => (ty s).bind fun _ => match d.desc with
    | .int k => exactI X k n
    | _ => none
  | x => convC ty h s t x
theorem convX_le {X : Mode} {ty : TypeId → Option TD} {h : Heap} {s t : TypeId} {x v : Value} (q : convX X ty h s t x = some v) : convC ty h s t x = some v := by
  unfold convX at q
  split at q
  · simp only [Option.bind_eq_some_iff] at q
    obtain ⟨d, hd, ds, hds, q⟩ := q
    simp only [convC, hd, hds, Option.bind_some]
    split at q
    · rename_i k hk; rw [hk]; simp [exactI_le q]
    · simp at q
  · exact q
noncomputable section
def semX (X : Mode) (ty : TypeId → Option TD) (o : Op) (s : List (Nat × Ent)) (hp : Heap) : Option Value :=
  match o with
  | .binOp op t x y _ => (ty t).bind fun d => (ev true s x).bind fun a => (ev true s y).bind fun b => binX X op d a b
  | .unOp op _ x => (ev true s x).bind fun a => unX X op a
  | .convert src t x => (ev true s x).bind fun a => convX X ty hp src t a
  | o => semP ty true o s hp
end
theorem semX_le {X : Mode} {ty : TypeId → Option TD} {o : Op} {s : List (Nat × Ent)} {hp : Heap} {v : Value} (h : semX X ty o s hp = some v) : semP ty true o s hp = some v := by
  unfold semX at h
  split at h
  · simp only [Option.bind_eq_some_iff] at h
    obtain ⟨d, hd, a, ha, b, hb, h⟩ := h
    simp only [semP, hd, ha, hb, Option.bind_some, binX_le h]
  · simp only [Option.bind_eq_some_iff] at h
    obtain ⟨a, ha, h⟩ := h
    simp only [semP, ha, Option.bind_some, unX_le h]
  · simp only [Option.bind_eq_some_iff] at h
    obtain ⟨a, ha, h⟩ := h
    simp only [semP, ha, Option.bind_some, convX_le h]
  · exact h
end Go.Sx
end
section
/-
  Sx, part Q: what the walks use. Own words; no condition.
-/
namespace Go.Sx
open Go
variable {P : Program} {ty : TypeId → Option TD} {N : Nat}

/-- A function, from its body's beginning: with nothing said of how it ends but by Q. -/
theorem fn_start (T : TyOk P ty) {f : FuncId} {fn : Func} {c : Code} (hf : P.funcs[f]? = some fn) (hb : fn.body = some c) (hn : (fn.name == "runtime.NumGoroutine") = false) {rs : Array ResultVar} (hr : fn.results = rs) (hN : fn.ntmps = N) {args : List Value} {H : Heap} {R : Value → Heap → Prop} (hl : args.length ≤ N)
    (h : ∀ Q : Exit → St → Prop, (∀ s v v' h', resC ty rs.toList s = some v → Ret H v s.h v' h' → R v' h' → Q .normal s ∧ Q .ret s) → CW P N c ⟨argTm 0 args, H⟩ Q) : Fn P f args H R := by
  subst hN; subst hr
  exact fn_intro T hf hb hn hl (h _ fun s v v' h' h1 h2 h3 => ⟨⟨.inl rfl, v, v', h', h1, h2, h3⟩, .inr rfl, v, v', h', h1, h2, h3⟩)
def subT : List (Nat × Ent) → List (Nat × Ent) → Prop
  | [], _ => True
  | (t, e) :: r, tm => lk tm t = some e ∧ subT r tm
theorem subT_lk {tm : List (Nat × Ent)} : ∀ {tm0 : List (Nat × Ent)}, subT tm0 tm → ∀ t e, lk tm0 t = some e → lk tm t = some e
  | [], _, t, e, h => by simp [lk] at h
  | (a, v) :: r, hs, t, e, h => by
    simp only [lk] at h
    split at h
    · rename_i ha; subst ha; simp at h; subst h; exact hs.1
    · exact subT_lk hs.2 t e h
theorem Weak.slots {tm0 tm : List (Nat × Ent)} {h : Heap} (hs : subT tm0 tm) : Weak ⟨tm0, h⟩ ⟨tm, h⟩ :=
  ⟨Nat.le_refl _, fun t e ht => ⟨subT_lk hs t e ht, .inl rfl⟩, fun _ _ hb => ⟨hb, .inl rfl⟩⟩

theorem wrap_i64 {n : Int} (h1 : -9223372036854775808 ≤ n) (h2 : n < 9223372036854775808) : IntKind.i64.wrap n = n := by
  simp [IntKind.wrap, IntKind.bits, IntKind.signed]; omega
theorem wrap_i32 {n : Int} (h1 : -2147483648 ≤ n) (h2 : n < 2147483648) : IntKind.i32.wrap n = n := by
  simp [IntKind.wrap, IntKind.bits, IntKind.signed]; omega
theorem wrap_i16 {n : Int} (h1 : -32768 ≤ n) (h2 : n < 32768) : IntKind.i16.wrap n = n := by
  simp [IntKind.wrap, IntKind.bits, IntKind.signed]; omega
theorem wrap_u64 {n : Int} (h1 : 0 ≤ n) (h2 : n < 18446744073709551616) : IntKind.u64.wrap n = n := by
  simp [IntKind.wrap, IntKind.bits, IntKind.signed]; omega
theorem wrap_u32 {n : Int} (h1 : 0 ≤ n) (h2 : n < 4294967296) : IntKind.u32.wrap n = n := by
  simp [IntKind.wrap, IntKind.bits, IntKind.signed]; omega
theorem wrap_u16 {n : Int} (h1 : 0 ≤ n) (h2 : n < 65536) : IntKind.u16.wrap n = n := by
  simp [IntKind.wrap, IntKind.bits, IntKind.signed]; omega
theorem wrap_u8 {n : Int} (h1 : 0 ≤ n) (h2 : n < 256) : IntKind.u8.wrap n = n := by
  simp [IntKind.wrap, IntKind.bits, IntKind.signed]; omega
/-- Bytes, as cells. -/
def u8s (l : List UInt8) : List Value := l.map fun b => .int .u8 b.toNat
theorem u8s_length (l : List UInt8) : (u8s l).length = l.length := by simp [u8s]
theorem u8s_get (l : List UInt8) (k : Nat) : (u8s l)[k]? = (l[k]?).map fun b => .int .u8 b.toNat := by simp [u8s]
theorem u8s_take (l : List UInt8) (k : Nat) : (u8s l).take k = u8s (l.take k) := by simp [u8s]
theorem u8s_drop (l : List UInt8) (k : Nat) : (u8s l).drop k = u8s (l.drop k) := by simp [u8s]
theorem u8s_append (l m : List UInt8) : u8s l ++ u8s m = u8s (l ++ m) := by simp [u8s]
theorem u8s_set (l : List UInt8) (k : Nat) (b : UInt8) : (u8s l).set k (.int .u8 b.toNat) = u8s (l.set k b) := by simp [u8s, List.map_set]
theorem u8s_closed (l : List UInt8) : ∀ x ∈ u8s l, closed1 x = true := by
  intro x hx
  simp only [u8s, List.mem_map] at hx
  obtain ⟨b, _, rfl⟩ := hx
  rfl
theorem u8s_one1 (l : List UInt8) : (u8s l).all one1 = true := by
  rw [List.all_eq_true]
  intro x hx
  simp only [u8s, List.mem_map] at hx
  obtain ⟨b, _, rfl⟩ := hx
  rfl
theorem strOf_u8s : ∀ l : List UInt8, strOf (u8s l) = some l
  | [] => rfl
  | b :: l => by
    have h := strOf_u8s l
    have e : UInt8.ofNat b.toNat = b := by simp
    simp only [u8s, List.map_cons, strOf, byteOf, Int.toNat_natCast, e, Option.bind_some] at h ⊢
    rw [h]; rfl
theorem zeros_u8 : ∀ n : Nat, zerosN [.int .u8 0] n = u8s (List.replicate n 0)
  | 0 => rfl
  | n + 1 => by rw [zerosN, zeros_u8 n]; rfl
end Go.Sx
end
section
/-
  Sx, part S: rows of operations by the walk's own words. Own words; no condition.
-/
namespace Go.Sx
open Go
section
variable (P : Program) (X : Mode) (ty : TypeId → Option TD) (N : Nat)
/-- Whether an operation makes or turns blocks. -/
def kindA (o : Op) : Bool :=
  match o with
  | .alloc _ => true
  | .box _ _ => true
  | .buildSlice _ _ _ => true
  | .makeSlice _ _ _ => true
  | .store _ _ _ => true
  | .convert _ t _ => match ty t with
    | some d => match d.desc with
      | .slice _ => true
      | _ => false
    | none => false
  | .call c => match c.callee with
    | .builtin .append => true
    | .builtin .copy => true
    | _ => false
  | _ => false
def execR (o : Oper) (K : St → Prop) (s : St) : Prop :=
  match callee s.tm o.op with
  | some p => CallK P p.1 p.2 s.h o.dst s.tm K
  | none => match kindA ty o.op with
    | true => req (semA ty o.op s.tm s.h) fun p => K ⟨put o.dst (.v p.1) s.tm, p.2⟩
    | false => req (semX X ty o.op s.tm s.h) fun v => K ⟨put o.dst (.v v) s.tm, s.h⟩
/-- A guard's answer: a bool, or nothing (it was itself not wanted). -/
def guardW (e : Ent) : Option (Option Bool) :=
  match e with
  | .v x => match x with
    | .bool b => some (some b)
    | .tuple _ => some none
    | _ => none
  | .g _ _ => none
def upd (t : Nat) (v : Ent) : List (Nat × Ent) → List (Nat × Ent)
  | [] => []
  | (a, x) :: r => if a = t then (a, v) :: r else (a, x) :: upd t v r
def guardSlot (all : List Oper) (g : Nat × Bool) : Option Nat := (all[g.1]?).bind fun o => o.dst
def stepR (all : List Oper) (o : Oper) (K : St → Prop) (s : St) : Prop :=
  match dstOk N o with
  | true => match o.guard with
    | none => execR P X ty o K s
    | some g => req (guardSlot all g) fun t => req ((lk s.tm t).bind guardW) fun b => match b with
      | some b => two (b == g.2) (execR P X ty o K s) (K ⟨put o.dst (.v undef) s.tm, s.h⟩)
      | none => K ⟨put o.dst (.v undef) s.tm, s.h⟩
  | false => False
def copsR (all : List Oper) : List Oper → (St → Prop) → St → Prop
  | [], K, s => K s
  | o :: os, K, s => stepR P X ty N all o (copsR all os K) s
/-- Those slots alone. -/
def keepT : List Nat → List (Nat × Ent) → List (Nat × Ent)
  | [], _ => []
  | t :: r, tm => match lk tm t with
    | some e => (t, e) :: keepT r tm
    | none => keepT r tm
end
variable {P : Program} {X : Mode} {ty : TypeId → Option TD} {N : Nat}
theorem semA_none {o : Op} (h : kindA ty o = false) (tm : List (Nat × Ent)) (hp : Heap) : semA ty o tm hp = none := by
  cases o with
  | call c =>
    obtain ⟨cl, args, ats⟩ := c
    cases cl with
    | builtin b => cases b <;> first | (simp [kindA] at h; done) | rfl
    | _ => rfl
  | convert s t x =>
    simp only [kindA] at h
    simp only [semA]
    cases hs : ty s with
    | none => rfl
    | some ds =>
      cases ht : ty t with
      | none => rfl
      | some d =>
        rw [ht] at h
        simp only at h
        simp only [Option.bind_some]
        split
        · rename_i e hk; rw [hk] at h; simp at h
        · rfl
  | _ => first | (simp [kindA] at h; done) | rfl
theorem execR_exec {o : Oper} {K : St → Prop} {s : St} (h : execR P X ty o K s) : exec P ty o K s := by
  unfold execR at h
  unfold exec
  split at h
  · rename_i p hc
    obtain ⟨f, args⟩ := p
    simp only [hc]; exact h
  · rename_i hc
    simp only [hc]
    split at h
    · obtain ⟨p, hp, hk⟩ := (req_iff _ _).1 h
      simp only [hp]; exact hk
    · rename_i hA
      obtain ⟨v, hv, hk⟩ := (req_iff _ _).1 h
      simp only [semA_none hA, semX_le hv]; exact hk
theorem lk_upd (t : Nat) (v : Ent) : ∀ (tm : List (Nat × Ent)) (u : Nat), lk (upd t v tm) u = if u = t ∧ (lk tm t).isSome then some v else lk tm u
  | [], u => by simp [upd, lk]
  | (a, x) :: r, u => by
    unfold upd
    by_cases h : a = t
    · subst h
      rw [if_pos rfl]
      by_cases hu : a = u
      · subst hu; simp [lk]
      · simp [lk, hu, Ne.symm hu]
    · rw [if_neg h]
      by_cases hu : a = u
      · subst hu; simp [lk, h]
      · simp [lk, h, hu, lk_upd t v r u]
theorem lk_upd_same {t : Nat} {v : Ent} {tm : List (Nat × Ent)} (h : lk tm t = some v) (u : Nat) : lk (upd t v tm) u = lk tm u := by
  rw [lk_upd]
  by_cases hu : u = t
  · subst hu; simp [h]
  · simp [hu]
theorem guardW_some {e : Ent} {b : Bool} (h : guardW e = some (some b)) : e = .v (.bool b) := by
  unfold guardW at h
  split at h
  · split at h
    · simp at h; subst h; rfl
    · simp at h
    · simp at h
  · simp at h
theorem guardW_none {e : Ent} (h : guardW e = some none) : ∃ vs, e = .v (.tuple vs) := by
  unfold guardW at h
  split at h
  · split at h
    · simp at h
    · exact ⟨_, rfl⟩
    · simp at h
  · simp at h
theorem wanted_of {ι : List Place} {tm : List (Nat × Ent)} {a : Act} (R : RelT ι tm N a) {ops : Array Oper} {g : Nat × Bool} {o : Oper} (hg : o.guard = some g) {t : Nat} (ht : guardSlot ops.toList g = some t) {e : Ent} (he : lk tm t = some e) :
    (∀ b, e = .v (.bool b) → Region.wanted o (yielded ops a.tmps) = (b == g.2)) ∧ (∀ vs, e = .v (.tuple vs) → Region.wanted o (yielded ops a.tmps) = false) := by
  obtain ⟨y, hy, hr⟩ := R.2.2 t e he
  obtain ⟨j, want⟩ := g
  simp only [guardSlot, Array.getElem?_toList, Option.bind_eq_some_iff] at ht
  obtain ⟨oj, hoj, ht⟩ := ht
  unfold Region.wanted
  rw [hg]
  simp only
  unfold yielded
  rw [hoj]
  simp only [Option.bind_some, ht, hy]
  constructor
  · rintro b rfl
    obtain rfl := VR.bool_inv hr
    simp
  · rintro vs rfl
    obtain ⟨ys, rfl, _⟩ := VR.tuple_inv hr
    simp
theorem stepR_sound (T : TyOk P ty) {ι : List Place} {s : St} {a : Act} {w : World} (L : Like ι s N a w) {ops : Array Oper} {o : Oper} {K : St → Prop} (h : stepR P X ty N ops.toList o K s) (Q : Exit → Act → World → Prop) :
    if Region.wanted o (yielded ops a.tmps) then o.wp P a w (Goes ι s.h w N K) Q else Goes ι s.h w N K (a.put o.dst undef) w := by
  unfold stepR at h
  split at h
  · rename_i hd
    have hlt := dstOk_lt hd
    have skip : ∀ tm, (∀ t, lk tm t = lk s.tm t) → K ⟨put o.dst (.v undef) tm, s.h⟩ → Goes ι s.h w N K (a.put o.dst undef) w := fun tm e hk =>
      ⟨ι, _, hk, ⟨L.1, (Like.byNumber (h := s.h) e L).2.put hlt undef_VR⟩, .refl _ _ _⟩
    split at h
    · rename_i hg
      rw [if_pos (by simp [Region.wanted, hg])]
      exact exec_sound T L hd (execR_exec h) Q
    · rename_i g hg
      obtain ⟨t, ht, h⟩ := (req_iff _ _).1 h
      obtain ⟨b, hb, h⟩ := (req_iff _ _).1 h
      simp only [Option.bind_eq_some_iff] at hb
      obtain ⟨e, he, hb⟩ := hb
      obtain ⟨w1, w2⟩ := wanted_of L.2 hg ht he
      split at h
      · rename_i b
        obtain rfl := guardW_some hb
        rw [w1 b rfl]
        obtain ⟨h1, h2⟩ := h
        split
        · rename_i hw
          have hbg : b = g.2 := by simpa using hw
          subst hbg
          exact exec_sound T L hd (execR_exec (h1 (by simp))) Q
        · rename_i hw
          have hbg : b = !g.2 := by revert hw; cases b <;> cases g.2 <;> simp
          subst hbg
          exact skip _ (fun _ => rfl) (h2 (by simp))
      · obtain ⟨vs, rfl⟩ := guardW_none hb
        rw [w2 vs rfl, if_neg (by decide)]
        exact skip _ (fun _ => rfl) h
  · exact h.elim
theorem copsR_sound (T : TyOk P ty) {ops : Array Oper} {Q : Exit → Act → World → Prop} : ∀ (l : List Oper) {K : St → Prop} {s : St} {ι : List Place} {a : Act} {w : World}, Like ι s N a w → copsR P X ty N ops.toList l K s →
    (∀ a' w', Goes ι s.h w N K a' w' → Q .normal a' w') → wpList P ops Q l a w
  | [], K, s, ι, a, w, L, h, hQ => hQ a w ⟨ι, s, h, L, .refl _ _ _⟩
  | o :: os, K, s, ι, a, w, L, h, hQ => by
    refine wpList_step fun K' hK' => ?_
    have hs := stepR_sound T L (ops := ops) h Q
    have next : ∀ a' w', Goes ι s.h w N (copsR P X ty N ops.toList os K) a' w' → K' a' w' := by
      rintro a' w' ⟨κ, s', hk, L', g⟩
      exact hK' _ _ (copsR_sound T os L' hk fun a'' w'' q => hQ a'' w'' (Goes.trans g q))
    split
    · rename_i hw; rw [if_pos hw] at hs; exact Oper.wp_mono next hs
    · rename_i hw; rw [if_neg hw] at hs; exact next _ _ hs
theorem keepT_lk (tm : List (Nat × Ent)) : ∀ (ks : List Nat) (t : Nat) (e : Ent), lk (keepT ks tm) t = some e → lk tm t = some e
  | [], t, e, h => by simp [keepT, lk] at h
  | k :: r, t, e, h => by
    unfold keepT at h
    split at h
    · rename_i e' he
      simp only [lk] at h
      split at h
      · rename_i hk; subst hk; rw [he]; exact h
      · exact keepT_lk tm r t e h
    · exact keepT_lk tm r t e h
theorem Goes.kept {ι : List Place} {h : Heap} {w : World} {K : St → Prop} {a' : Act} {w' : World} {ks : List Nat} (g : Goes ι h w N (fun s => K ⟨keepT ks s.tm, s.h⟩) a' w') : Goes ι h w N K a' w' := by
  obtain ⟨κ, s', hk, L, g⟩ := g
  exact ⟨κ, ⟨keepT ks s'.tm, s'.h⟩, hk, ⟨L.1, L.2.1, L.2.2.1, fun t e he => L.2.2.2 t e (keepT_lk _ _ _ _ he)⟩, g⟩
/-- A region: of its slots, those that ks names are told. -/
theorem cw_ops (T : TyOk P ty) (X : Mode) (ks : List Nat) {id : Nat} {ops : Array Oper} {s : St} {Q : Exit → St → Prop} (h : copsR P X ty N ops.toList ops.toList (fun s => Q .normal ⟨keepT ks s.tm, s.h⟩) s) : CW P N (.region id ops false) s Q :=
  fun _ _ _ L => wp_region_list (copsR_sound T _ L h fun _ _ q => q.kept)
theorem Weak.refl (s : St) : Weak s s := ⟨Nat.le_refl _, fun _ _ h => ⟨h, .inl rfl⟩, fun _ _ h => ⟨h, .inl rfl⟩⟩
/-- A loop: at its head I holds, with a number that each round lowers. -/
theorem cw_while {c : Code} {s : St} {Q : Exit → St → Prop} (I : Nat → St → Prop) (n : Nat) (h0 : I n s)
    (round : ∀ n s, I n s → CW P N c s (thenC (fun s' => ∃ m, m < n ∧ I m s' ∧ s.h.length ≤ s'.h.length) Q)) : CW P N (.loop c) s Q :=
  cw_loop I n s h0 (.refl s) rfl fun n s h => (round n s h).mono fun e s' q => by
    cases e with
    | normal => obtain ⟨m, h1, h2, h3⟩ := q; exact ⟨m, s', h1, h2, .refl s', h3⟩
    | _ => exact q
/-- Cells filled from the front on. -/
theorem front_step {α : Type} (f : Nat → α) (z : α) (n i : Nat) (h : i < n) : ((List.range i).map f ++ List.replicate (n - i) z).set i (f i) = (List.range (i + 1)).map f ++ List.replicate (n - (i + 1)) z := by
  rw [List.set_append_right _ _ (by simp), List.range_succ]
  obtain ⟨k, hk⟩ : ∃ k, n - i = k + 1 := ⟨n - i - 1, by omega⟩
  rw [hk, show n - (i + 1) = k by omega]
  simp [List.replicate_succ]
/-- A round's end. -/
theorem round_end {I : Nat → St → Prop} {n l : Nat} {s' : St} {Q : Exit → St → Prop} (m : Nat) (h1 : m < n) (h2 : I m s') (h3 : l ≤ s'.h.length) : thenC (fun s' => ∃ m, m < n ∧ I m s' ∧ l ≤ s'.h.length) Q .normal s' := ⟨m, h1, h2, h3⟩
/-- A region, and what follows it. -/
theorem cw_step (T : TyOk P ty) (X : Mode) (ks : List Nat) {id : Nat} {ops : Array Oper} {b : Code} {s : St} {Q : Exit → St → Prop} (h : ∀ K : St → Prop, (∀ s, CW P N b s Q → K s) → copsR P X ty N ops.toList ops.toList (fun s => K ⟨keepT ks s.tm, s.h⟩) s) : CW P N (.seq (.region id ops false) b) s Q :=
  cw_seq fun K hK => cw_ops T X ks (h K hK)
/-- A region, and nothing more. -/
theorem cw_last (T : TyOk P ty) (X : Mode) (ks : List Nat) {id : Nat} {ops : Array Oper} {s : St} {Q : Exit → St → Prop} (h : ∀ K : St → Prop, (∀ s, Q .normal s → K s) → copsR P X ty N ops.toList ops.toList (fun s => K ⟨keepT ks s.tm, s.h⟩) s) : CW P N (.region id ops false) s Q :=
  cw_ops T X ks (h _ fun _ q => q)
end Go.Sx
end
