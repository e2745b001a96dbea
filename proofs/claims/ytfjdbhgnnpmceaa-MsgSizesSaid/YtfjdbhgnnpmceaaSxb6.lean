/-
  Walks by Sx; no condition beyond those that stand in each statement.
-/
import Derived.Test.YtfjdbhgnnpmceaaSxb5
import Derived.Below
import Derived.LoopN
section
/-
  Sx, part U: the rules by which a row of operations is worked off. Own words; no condition.
-/
namespace Go.Sx
open Go
variable {P : Program} {X : Mode} {ty : TypeId → Option TD} {N : Nat}
/-- An operation's work. -/
def E (P : Program) (X : Mode) (ty : TypeId → Option TD) (o : Op) (d : Option Tmp) (K : St → Prop) (tm : List (Nat × Ent)) (h : Heap) : Prop := execR P X ty ⟨d, o, 0, "", #[], none⟩ K ⟨tm, h⟩
@[congr] theorem E_congr {P : Program} {X : Mode} {ty : TypeId → Option TD} {o : Op} {d : Option Tmp} {K : St → Prop} {tm tm' : List (Nat × Ent)} {h h' : Heap} (a : tm = tm') (b : h = h') : E P X ty o d K tm h = E P X ty o d K tm' h' := by rw [a, b]
@[congr] theorem copsR_congr {P : Program} {X : Mode} {ty : TypeId → Option TD} {N : Nat} {all os : List Oper} {K : St → Prop} {s s' : St} (a : s = s') : copsR P X ty N all os K s = copsR P X ty N all os K s' := by rw [a]
@[congr] theorem CallK_congr {P : Program} {f : FuncId} {args args' : List Value} {h h' : Heap} {d : Option Tmp} {tm tm' : List (Nat × Ent)} {K : St → Prop} (a : args = args') (b : h = h') (c : tm = tm') : CallK P f args h d tm K = CallK P f args' h' d tm' K := by rw [a, b, c]
def dOk (N : Nat) (d : Option Tmp) : Bool :=
  match d with
  | some t => decide (t < N)
  | none => true
@[simp] theorem dOk_none : dOk N none = true := nd rfl
@[simp] theorem dOk_some (t : Nat) : dOk N (some t) = decide (t < N) := nd rfl
/-- Behind a guard: e is what stands in its slot. -/
def gate (P : Program) (X : Mode) (ty : TypeId → Option TD) (o : Op) (d : Option Tmp) (K : St → Prop) (tm : List (Nat × Ent)) (h : Heap) (t : Nat) (e : Ent) (g : Bool) : Prop :=
  lk tm t = some e ∧ req (guardW e) fun b => match b with
    | some b => two (b == g) (E P X ty o d K tm h) (K ⟨put d (.v undef) tm, h⟩)
    | none => K ⟨put d (.v undef) tm, h⟩
@[congr] theorem gate_congr {P : Program} {X : Mode} {ty : TypeId → Option TD} {o : Op} {d : Option Tmp} {K : St → Prop} {tm tm' : List (Nat × Ent)} {h h' : Heap} {t : Nat} {b b' : Ent} {g : Bool} (a : tm = tm') (c : h = h') (e : b = b') : gate P X ty o d K tm h t b g = gate P X ty o d K tm' h' t b' g := by rw [a, c, e]
@[simp] theorem copsR_nil (all : List Oper) (K : St → Prop) (s : St) : copsR P X ty N all [] K s = K s := nd rfl
@[simp] theorem copsR_plain (all : List Oper) (d : Option Tmp) (o : Op) (T : TypeId) (p : String) (af : Array Edge) (os : List Oper) (K : St → Prop) (tm : List (Nat × Ent)) (h : Heap) :
    copsR P X ty N all (⟨d, o, T, p, af, none⟩ :: os) K ⟨tm, h⟩ = (dOk N d = true ∧ E P X ty o d (copsR P X ty N all os K) tm h) := by
  simp only [copsR, stepR, dstOk]
  cases d with
  | none => simp [E, execR]
  | some t => by_cases ht : t < N <;> simp [ht, E, execR]
@[simp] theorem copsR_guard (all : List Oper) (d : Option Tmp) (o : Op) (T : TypeId) (p : String) (af : Array Edge) (j : Nat) (g : Bool) (os : List Oper) (K : St → Prop) (tm : List (Nat × Ent)) (h : Heap) :
    copsR P X ty N all (⟨d, o, T, p, af, some (j, g)⟩ :: os) K ⟨tm, h⟩ = (dOk N d = true ∧ req (guardSlot all (j, g)) fun t => req (lk tm t) fun e => gate P X ty o d (copsR P X ty N all os K) tm h t e g) := by
  have e : (fun t => req (lk tm t) fun e => gate P X ty o d (copsR P X ty N all os K) tm h t e g) = (fun t => req ((lk tm t).bind guardW) fun b => match b with
      | some b => two (b == g) (execR P X ty ⟨d, o, T, p, af, some (j, g)⟩ (copsR P X ty N all os K) ⟨tm, h⟩) (copsR P X ty N all os K ⟨put d (.v undef) tm, h⟩)
      | none => copsR P X ty N all os K ⟨put d (.v undef) tm, h⟩) := by
    funext t
    rw [req_bind]
    cases hl : lk tm t with
    | none => rfl
    | some e =>
      simp only [req_some, gate, hl, true_and]
      rfl
  rw [e]
  cases d with
  | none => rw [dOk_none, eq_self, true_and]; rfl
  | some t =>
    by_cases ht : t < N
    · rw [dOk_some, decide_eq_true ht, eq_self, true_and]
      simp only [copsR, stepR, dstOk, decide_eq_true ht]
      rfl
    · rw [dOk_some, decide_eq_false ht]
      simp [copsR, stepR, dstOk, decide_eq_false ht]
theorem upd_same {t : Nat} {v : Ent} : ∀ {tm : List (Nat × Ent)}, lk tm t = some v → upd t v tm = tm
  | [], _ => rfl
  | (a, x) :: r, h => by
    unfold upd
    simp only [lk] at h
    split at h
    · rename_i ha; subst ha; simp at h; subst h; rw [if_pos rfl]
    · rename_i ha; rw [if_neg ha, upd_same h]
theorem two_true' (A B : Prop) : two true A B = A := two_true A B
@[simp] theorem gate_none (o : Op) (d : Option Tmp) (K : St → Prop) (tm : List (Nat × Ent)) (h : Heap) (t : Nat) (vs : Array Value) (g : Bool) : gate P X ty o d K tm h t (.v (.tuple vs)) g = (lk tm t = some (.v (.tuple vs)) ∧ K ⟨put d (.v undef) tm, h⟩) := nd rfl
@[simp high] theorem gate_tt (o : Op) (d : Option Tmp) (K : St → Prop) (tm : List (Nat × Ent)) (h : Heap) (t : Nat) : gate P X ty o d K tm h t (.v (.bool true)) true = (lk tm t = some (.v (.bool true)) ∧ E P X ty o d K tm h) := by
  simp only [gate, guardW, req_some, beq_self_eq_true, two_true]
@[simp high] theorem gate_ff (o : Op) (d : Option Tmp) (K : St → Prop) (tm : List (Nat × Ent)) (h : Heap) (t : Nat) : gate P X ty o d K tm h t (.v (.bool false)) false = (lk tm t = some (.v (.bool false)) ∧ E P X ty o d K tm h) := by
  simp only [gate, guardW, req_some, beq_self_eq_true, two_true]
@[simp high] theorem gate_tf (o : Op) (d : Option Tmp) (K : St → Prop) (tm : List (Nat × Ent)) (h : Heap) (t : Nat) : gate P X ty o d K tm h t (.v (.bool true)) false = (lk tm t = some (.v (.bool true)) ∧ K ⟨put d (.v undef) tm, h⟩) := by
  have e : (true == false) = false := rfl
  simp only [gate, guardW, req_some, e, two_false]
@[simp high] theorem gate_ft (o : Op) (d : Option Tmp) (K : St → Prop) (tm : List (Nat × Ent)) (h : Heap) (t : Nat) : gate P X ty o d K tm h t (.v (.bool false)) true = (lk tm t = some (.v (.bool false)) ∧ K ⟨put d (.v undef) tm, h⟩) := by
  have e : (false == true) = false := rfl
  simp only [gate, guardW, req_some, e, two_false]
@[simp] theorem gate_bt (o : Op) (d : Option Tmp) (K : St → Prop) (tm : List (Nat × Ent)) (h : Heap) (t : Nat) (b : Bool) :
    gate P X ty o d K tm h t (.v (.bool b)) true = (lk tm t = some (.v (.bool b)) ∧ (b = true → E P X ty o d K (upd t (.v (.bool true)) tm) h) ∧ (b = false → K ⟨put d (.v undef) (upd t (.v (.bool false)) tm), h⟩)) := by
  simp only [gate, guardW, req_some, two]
  apply propext
  constructor
  · rintro ⟨h1, h2, h3⟩
    refine ⟨h1, fun hb => ?_, fun hb => ?_⟩
    · subst hb; rw [upd_same h1]; exact h2 rfl
    · subst hb; rw [upd_same h1]; exact h3 rfl
  · rintro ⟨h1, h2, h3⟩
    refine ⟨h1, fun hb => ?_, fun hb => ?_⟩
    · have hb : b = true := by simpa using hb
      subst hb; have := h2 rfl; rwa [upd_same h1] at this
    · have hb : b = false := by simpa using hb
      subst hb; have := h3 rfl; rwa [upd_same h1] at this
@[simp] theorem gate_bf (o : Op) (d : Option Tmp) (K : St → Prop) (tm : List (Nat × Ent)) (h : Heap) (t : Nat) (b : Bool) :
    gate P X ty o d K tm h t (.v (.bool b)) false = (lk tm t = some (.v (.bool b)) ∧ (b = false → E P X ty o d K (upd t (.v (.bool false)) tm) h) ∧ (b = true → K ⟨put d (.v undef) (upd t (.v (.bool true)) tm), h⟩)) := by
  simp only [gate, guardW, req_some, two]
  apply propext
  constructor
  · rintro ⟨h1, h2, h3⟩
    refine ⟨h1, fun hb => ?_, fun hb => ?_⟩
    · subst hb; rw [upd_same h1]; exact h2 rfl
    · subst hb; rw [upd_same h1]; exact h3 rfl
  · rintro ⟨h1, h2, h3⟩
    refine ⟨h1, fun hb => ?_, fun hb => ?_⟩
    · have hb : b = false := by simpa using hb
      subst hb; have := h2 rfl; rwa [upd_same h1] at this
    · have hb : b = true := by simpa using hb
      subst hb; have := h3 rfl; rwa [upd_same h1] at this
@[congr] theorem two_head {b b' : Bool} {A B : Prop} (h : b = b') : two b A B = two b' A B := by rw [h]
@[simp] theorem two_t (A B : Prop) : two true A B = A := two_true A B
@[simp] theorem two_f (A B : Prop) : two false A B = B := two_false A B
@[simp] theorem two_d (c : Prop) [Decidable c] (A B : Prop) : two (decide c) A B = ((c → A) ∧ (¬ c → B)) := two_decide c A B
@[simp] theorem two_n (b : Bool) (A B : Prop) : two (!b) A B = two b B A := by cases b <;> simp [two]
@[simp] theorem guardSlot_eq (all : List Oper) (g : Nat × Bool) : guardSlot all g = (all[g.1]?).bind fun o => o.dst := nd rfl
@[simp] theorem guardW_b (b : Bool) : guardW (.v (.bool b)) = some (some b) := nd rfl
@[simp] theorem guardW_t (vs : Array Value) : guardW (.v (.tuple vs)) = some none := nd rfl
@[simp] theorem undef_eq : undef = .tuple #[] := nd rfl
attribute [simp] upd req_some req_none req_bind req_map req_ite req_ite'
@[simp] theorem put_some (t : Tmp) (v : Ent) (tm : List (Nat × Ent)) : put (some t) v tm = (t, v) :: tm := nd rfl
@[simp] theorem put_none (v : Ent) (tm : List (Nat × Ent)) : put none v tm = tm := nd rfl
@[simp] theorem lk_cons (a : Nat) (v : Ent) (r : List (Nat × Ent)) (t : Nat) : lk ((a, v) :: r) t = if a = t then some v else lk r t := nd rfl
@[simp] theorem keepT_nil (tm : List (Nat × Ent)) : keepT [] tm = [] := nd rfl
/-- A slot that is kept, ahead of the others. -/
def kons (t : Nat) (e : Option Ent) (r : List (Nat × Ent)) : List (Nat × Ent) :=
  match e with
  | some e => (t, e) :: r
  | none => r
@[simp] theorem kons_some (t : Nat) (e : Ent) (r : List (Nat × Ent)) : kons t (some e) r = (t, e) :: r := nd rfl
@[simp] theorem keepT_cons (k : Nat) (ks : List Nat) (tm : List (Nat × Ent)) : keepT (k :: ks) tm = kons k (lk tm k) (keepT ks tm) := by
  simp only [keepT]
  cases lk tm k <;> rfl
def entV (γ : Bool) (e : Ent) : Option Value :=
  match e with
  | .v x => some x
  | .g β x => if γ = true → β = true then some x else none
@[simp] theorem entV_v (γ : Bool) (x : Value) : entV γ (.v x) = some x := nd rfl
@[simp] theorem ev_tmp (γ : Bool) (tm : List (Nat × Ent)) (t : Tmp) : ev γ tm (.tmp t) = (lk tm t).bind (entV γ) := by
  simp only [ev]
  cases lk tm t with
  | none => rfl
  | some e => cases e <;> rfl
@[simp] theorem ev_int (γ : Bool) (tm : List (Nat × Ent)) (k : IntKind) (n : Int) : ev γ tm (.const (.int k n)) = some (.int k n) := nd rfl
@[simp] theorem ev_bool (γ : Bool) (tm : List (Nat × Ent)) (b : Bool) : ev γ tm (.const (.bool b)) = some (.bool b) := nd rfl
@[simp] theorem ev_string (γ : Bool) (tm : List (Nat × Ent)) (b : ByteArray) : ev γ tm (.const (.string b)) = some (.string b) := nd rfl
@[simp] theorem ev_nilP (γ : Bool) (tm : List (Nat × Ent)) : ev γ tm (.const (.pointer none)) = some (.pointer none) := nd rfl
@[simp] theorem ev_nilS (γ : Bool) (tm : List (Nat × Ent)) (a b : Nat) : ev γ tm (.const (.slice none a b)) = some (.slice none a b) := nd rfl
@[simp] theorem ev_nilM (γ : Bool) (tm : List (Nat × Ent)) : ev γ tm (.const (.map none)) = some (.map none) := nd rfl
@[simp] theorem ev_nilF (γ : Bool) (tm : List (Nat × Ent)) : ev γ tm (.const .nilFunc) = some .nilFunc := nd rfl
@[simp] theorem ev_nilI (γ : Bool) (tm : List (Nat × Ent)) : ev γ tm (.const .nilIface) = some .nilIface := nd rfl
@[simp] theorem ev_func (γ : Bool) (tm : List (Nat × Ent)) (f : FuncId) : ev γ tm (.func f) = some (.func (.func f) #[] #[]) := nd rfl
@[simp] theorem evs_nil (γ : Bool) (tm : List (Nat × Ent)) : evs γ tm [] = some [] := nd rfl
@[simp] theorem evs_cons (γ : Bool) (tm : List (Nat × Ent)) (x : Operand) (xs : List Operand) : evs γ tm (x :: xs) = (ev γ tm x).bind fun v => (evs γ tm xs).map fun l => v :: l := nd rfl
@[simp] theorem evps_nil (γ : Bool) (tm : List (Nat × Ent)) : evps γ tm [] = some [] := nd rfl
@[simp] theorem evps_cons (γ : Bool) (tm : List (Nat × Ent)) (i : Nat) (x : Operand) (xs : List (Nat × Operand)) : evps γ tm ((i, x) :: xs) = (ev γ tm x).bind fun v => (evps γ tm xs).map fun l => (i, v) :: l := by
  simp only [evps, List.map_cons, all2]
  cases ev γ tm x <;> simp
@[simp] theorem evo_none (γ : Bool) (tm : List (Nat × Ent)) : evo γ tm none = some none := nd rfl
@[simp] theorem evo_some (γ : Bool) (tm : List (Nat × Ent)) (x : Operand) : evo γ tm (some x) = (ev γ tm x).map some := nd rfl
section
variable (K : St → Prop) (tm : List (Nat × Ent)) (h : Heap) (d : Option Tmp)
/-- What follows an answer. -/
abbrev aft (K : St → Prop) (d : Option Tmp) (tm : List (Nat × Ent)) (h : Heap) (v : Value) : Prop := K ⟨put d (.v v) tm, h⟩
@[simp] theorem E_move (x : Operand) : E P X ty (.move x) d K tm h = req (ev true tm x) fun v => K ⟨put d (.v v) tm, h⟩ := nd rfl
@[simp] theorem E_assign (x : Operand) : E P X ty (.assign x) d K tm h = req (ev true tm x) fun v => K ⟨put d (.v v) tm, h⟩ := nd rfl
def pickD (tm : List (Nat × Ent)) (a b : Operand) (v : Value) : Option Value :=
  match v with
  | .bool β => (ev (true && β) tm a).bind fun x => (ev (true && !β) tm b).map fun y => pickC β x y
  | _ => none
theorem pickC_true (x y : Value) : pickC true x y = x := by
  cases x <;> simp [pickC]
  cases y <;> simp
theorem pickC_false (x y : Value) : pickC false x y = y := by
  cases x <;> simp [pickC]
  cases y <;> simp
@[simp] theorem pickD_true (a b : Operand) : pickD tm a b (.bool true) = (ev true tm a).bind fun x => (ev false tm b).map fun _ => x := by
  simp only [pickD, Bool.and_true, Bool.not_true, Bool.and_false, pickC_true]
@[simp] theorem pickD_false (a b : Operand) : pickD tm a b (.bool false) = (ev false tm a).bind fun _ => (ev true tm b).map fun y => y := by
  simp only [pickD, Bool.and_false, Bool.not_false, Bool.and_true, pickC_false]
theorem pickD_any (a b : Operand) (β : Bool) : pickD tm a b (.bool β) = (ev (true && β) tm a).bind fun x => (ev (true && !β) tm b).map fun y => pickC β x y := rfl
@[simp] theorem E_pick (c a b : Operand) : E P X ty (.pick c a b) d K tm h = req (ev true tm c) fun v => req (pickD tm a b v) fun v => K ⟨put d (.v v) tm, h⟩ := by
  simp only [E, execR, callee, kindA, semX, semP, req_bind]
  exact nd rfl
@[simp] theorem E_build (t : TypeId) (ps : Array (Nat × Operand)) : E P X ty (.build t ps) d K tm h = req (evps true tm ps.toList) fun l => req (buildC ty t l) fun v => K ⟨put d (.v v) tm, h⟩ := by
  simp only [E, execR, callee, kindA, semX, semP, req_bind]
@[simp] theorem E_load (t : TypeId) (x : Operand) : E P X ty (.load t x) d K tm h = req (ty t) fun D => req (ev true tm x) fun v => req (loadC D h v) fun v => K ⟨put d (.v v) tm, h⟩ := by
  simp only [E, execR, callee, kindA, semX, semP, req_bind]
def nilC (v : Value) : Option Value :=
  match v with
    | .pointer (some a) => some (.pointer (some a))
    | .iface t x => some (.iface t x)
    | .func (.func f) x y => some (.func (.func f) x y)
    | _ => none
@[simp] theorem nilC_p (a : Addr) : nilC (.pointer (some a)) = some (.pointer (some a)) := nd rfl
@[simp] theorem nilC_i (t : TypeId) (x : Value) : nilC (.iface t x) = some (.iface t x) := nd rfl
@[simp] theorem nilC_f (f : FuncId) (x y : Array Value) : nilC (.func (.func f) x y) = some (.func (.func f) x y) := nd rfl
@[simp] theorem E_nilCheck (x : Operand) : E P X ty (.nilCheck x) d K tm h = req (ev true tm x) fun v => req (nilC v) fun v => K ⟨put d (.v v) tm, h⟩ := by
  simp only [E, execR, callee, kindA, semX, semP, req_bind]
  exact nd rfl
@[simp] theorem E_binOp (op : BinOp) (t u : TypeId) (x y : Operand) : E P X ty (.binOp op t x y u) d K tm h = req (ty t) fun D => req (ev true tm x) fun a => req (ev true tm y) fun b => req (binX X op D a b) fun v => K ⟨put d (.v v) tm, h⟩ := by
  simp only [E, execR, callee, kindA, semX, req_bind]
@[simp] theorem E_unOp (op : UnOp) (t : TypeId) (x : Operand) : E P X ty (.unOp op t x) d K tm h = req (ev true tm x) fun a => req (unX X op a) fun v => K ⟨put d (.v v) tm, h⟩ := by
  simp only [E, execR, callee, kindA, semX, req_bind]
@[simp] theorem E_makeFunc (fn : Go.Fn) (a b : Array Operand) : E P X ty (.makeFunc fn a b) d K tm h = req (evs true tm a.toList) fun l => req (evs true tm b.toList) fun m => K ⟨put d (.v (.func fn l.toArray m.toArray)) tm, h⟩ := by
  simp only [E, execR, callee, kindA, semX, semP, req_bind, req_map]
def mkI (D : TD) (t : TypeId) (a : Value) : Option Value :=
  match D.desc with
  | .interface _ => none
  | _ => some (.iface t a)
@[simp] theorem E_makeInterface (t : TypeId) (x : Operand) : E P X ty (.makeInterface t x) d K tm h = req (ty t) fun D => req (ev true tm x) fun a => req (mkI D t a) fun v => K ⟨put d (.v v) tm, h⟩ := by
  simp only [E, execR, callee, kindA, semX, semP, req_bind]
  exact nd rfl
@[simp] theorem E_slice (t : TypeId) (x : Operand) (lo hi mx : Option Operand) : E P X ty (.slice t x lo hi mx) d K tm h = req (ev true tm x) fun a => req (evo true tm lo) fun l => req (evo true tm hi) fun u => req (evo true tm mx) fun m => req (sliceC ty h t a l u m) fun v => K ⟨put d (.v v) tm, h⟩ := by
  simp only [E, execR, callee, kindA, semX, semP, req_bind]
@[simp] theorem E_fieldAddr (t : TypeId) (x : Operand) (f : Nat) : E P X ty (.fieldAddr t x f) d K tm h = req (ev true tm x) fun a => req (fieldAddrC ty t a f) fun v => K ⟨put d (.v v) tm, h⟩ := by
  simp only [E, execR, callee, kindA, semX, semP, req_bind]
@[simp] theorem E_field (t : TypeId) (x : Operand) (f : Nat) : E P X ty (.field t x f) d K tm h = req (ev true tm x) fun a => req (fieldC ty t a f) fun v => K ⟨put d (.v v) tm, h⟩ := by
  simp only [E, execR, callee, kindA, semX, semP, req_bind]
@[simp] theorem E_indexAddr (t : TypeId) (x i : Operand) : E P X ty (.indexAddr t x i) d K tm h = req (ev true tm x) fun a => req (ev true tm i) fun b => req (indexAddrC ty t a b) fun v => K ⟨put d (.v v) tm, h⟩ := by
  simp only [E, execR, callee, kindA, semX, semP, req_bind]
@[simp] theorem E_index (t : TypeId) (x i : Operand) : E P X ty (.index t x i) d K tm h = req (ev true tm x) fun a => req (ev true tm i) fun b => req (indexC ty t a b) fun v => K ⟨put d (.v v) tm, h⟩ := by
  simp only [E, execR, callee, kindA, semX, semP, req_bind]
def extr (a : Value) (i : Nat) : Option Value :=
  match a with
  | .tuple vs => vs.toList[i]?
  | _ => none
@[simp] theorem extr_t (vs : Array Value) (i : Nat) : extr (.tuple vs) i = vs.toList[i]? := nd rfl
@[simp] theorem E_extract (x : Operand) (i : Nat) : E P X ty (.extract x i) d K tm h = req (ev true tm x) fun a => req (extr a i) fun v => K ⟨put d (.v v) tm, h⟩ := by
  simp only [E, execR, callee, kindA, semX, semP, req_bind]
  exact nd rfl
@[simp] theorem E_len (args : Array Operand) (ats : Array TypeId) : E P X ty (.call ⟨.builtin .len, args, ats⟩) d K tm h = req (evs true tm args.toList) fun l => req (builtP ty ats .len l) fun v => K ⟨put d (.v v) tm, h⟩ := by
  simp only [E, execR, callee, kindA, semX, semP, req_bind]
@[simp] theorem E_min (args : Array Operand) (ats : Array TypeId) : E P X ty (.call ⟨.builtin .min, args, ats⟩) d K tm h = req (evs true tm args.toList) fun l => req (builtP ty ats .min l) fun v => K ⟨put d (.v v) tm, h⟩ := by
  simp only [E, execR, callee, kindA, semX, semP, req_bind]
@[simp] theorem E_max (args : Array Operand) (ats : Array TypeId) : E P X ty (.call ⟨.builtin .max, args, ats⟩) d K tm h = req (evs true tm args.toList) fun l => req (builtP ty ats .max l) fun v => K ⟨put d (.v v) tm, h⟩ := by
  simp only [E, execR, callee, kindA, semX, semP, req_bind]
@[simp] theorem E_alloc (t : TypeId) : E P X ty (.alloc t) d K tm h = req (ty t) fun D => K ⟨put d (.v (.pointer (some ⟨h.length, 0, none⟩))) tm, h ++ [some (.cells D.zero true 0)]⟩ := by
  simp only [E, execR, callee, kindA, semA, req_map]
@[simp] theorem E_box (t : TypeId) (x : Operand) : E P X ty (.box t x) d K tm h = req (ev true tm x) fun v => K ⟨put d (.v (.pointer (some ⟨h.length, 0, none⟩))) tm, h ++ [some (.cells v.cells.toList true 0)]⟩ := by
  simp only [E, execR, callee, kindA, semA, req_map]
@[simp] theorem E_store (t : TypeId) (x y : Operand) : E P X ty (.store t x y) d K tm h = req (ty t) fun D => req (ev true tm x) fun p => req (ev true tm y) fun v => req (storeC D h p v) fun h' => K ⟨put d (.v undef) tm, h'⟩ := by
  simp only [E, execR, callee, kindA, semA, req_map, req_bind]
@[simp] theorem E_makeSlice (t : TypeId) (l c : Operand) : E P X ty (.makeSlice t l c) d K tm h = req (semA ty (.makeSlice t l c) tm h) fun p => K ⟨put d (.v p.1) tm, p.2⟩ := nd rfl
@[simp] theorem E_buildSlice (t : TypeId) (n : Nat) (ps : Array (Nat × Operand)) : E P X ty (.buildSlice t n ps) d K tm h = req (semA ty (.buildSlice t n ps) tm h) fun p => K ⟨put d (.v p.1) tm, p.2⟩ := nd rfl
@[simp] theorem E_append (args : Array Operand) (ats : Array TypeId) : E P X ty (.call ⟨.builtin .append, args, ats⟩) d K tm h = req (semA ty (.call ⟨.builtin .append, args, ats⟩) tm h) fun p => K ⟨put d (.v p.1) tm, p.2⟩ := nd rfl
@[simp] theorem E_copy (args : Array Operand) (ats : Array TypeId) : E P X ty (.call ⟨.builtin .copy, args, ats⟩) d K tm h = req (semA ty (.call ⟨.builtin .copy, args, ats⟩) tm h) fun p => K ⟨put d (.v p.1) tm, p.2⟩ := nd rfl
set_option linter.unusedVariables false in
def convE (P : Program) (X : Mode) (ty : TypeId → Option TD) (s t : TypeId) (x : Operand) (d : Option Tmp) (K : St → Prop) (tm : List (Nat × Ent)) (h : Heap) : Bool → Prop
  | true => req (semA ty (.convert s t x) tm h) fun p => K ⟨put d (.v p.1) tm, p.2⟩
  | false => req (ev true tm x) fun a => req (convX X ty h s t a) fun v => K ⟨put d (.v v) tm, h⟩
def isSliceD (D : Option TD) : Bool :=
  match D with
  | some d => match d.desc with
    | .slice _ => true
    | _ => false
  | none => false
@[simp] theorem E_convert (s t : TypeId) (x : Operand) : E P X ty (.convert s t x) d K tm h = convE P X ty s t x d K tm h (isSliceD (ty t)) := by
  have e : kindA ty (.convert s t x) = isSliceD (ty t) := rfl
  simp only [E, execR, callee, e]
  cases isSliceD (ty t)
  · simp only [convE, semX, req_bind]
  · simp only [convE]
@[simp] theorem convE_false (s t : TypeId) (x : Operand) : convE P X ty s t x d K tm h false = req (ev true tm x) fun a => req (convX X ty h s t a) fun v => K ⟨put d (.v v) tm, h⟩ := nd rfl
@[simp] theorem convE_true (s t : TypeId) (x : Operand) : convE P X ty s t x d K tm h true = req (semA ty (.convert s t x) tm h) fun p => K ⟨put d (.v p.1) tm, p.2⟩ := nd rfl
/-- A call of a value. -/
def callV (P : Program) (fv : Value) (l : List Value) (h : Heap) (d : Option Tmp) (tm : List (Nat × Ent)) (K : St → Prop) : Prop :=
  match fv with
  | .func fn first captured => match fn with
    | .func f => CallK P f (first.toList ++ l ++ captured.toList) h d tm K
    | _ => False
  | _ => False
@[simp] theorem callV_f (f : FuncId) (a b : Array Value) (l : List Value) : callV P (.func (.func f) a b) l h d tm K = CallK P f (a.toList ++ l ++ b.toList) h d tm K := nd rfl
@[simp] theorem E_call (f : Operand) (args : Array Operand) (ats : Array TypeId) : E P X ty (.call ⟨.value f, args, ats⟩) d K tm h = req (ev true tm f) fun fv => req (evs true tm args.toList) fun l => callV P fv l h d tm K := by
  simp only [E, execR, callee, kindA]
  cases hf : ev true tm f with
  | none => rfl
  | some fv =>
    cases hl : evs true tm args.toList with
    | none => rfl
    | some l =>
      simp only [Option.bind_some, req_some]
      cases fv with
      | func fn a b => cases fn <;> rfl
      | _ => rfl
end

/-! ### Values -/
section
variable (D : TD) (k : IntKind) (a b : Int)
@[simp] theorem exactI_eq (n : Int) : exactI X k n = match X k with
  | true => if lo k ≤ n ∧ n ≤ hi k then some (.int k n) else none
  | false => some (.int k (k.wrap n)) := rfl
@[simp] theorem binX_add : binX X .add D (.int k a) (.int k b) = exactI X k (a + b) := by simp [binX]
@[simp] theorem binX_sub : binX X .sub D (.int k a) (.int k b) = exactI X k (a - b) := by simp [binX]
@[simp] theorem binX_mul : binX X .mul D (.int k a) (.int k b) = exactI X k (a * b) := by simp [binX]
@[simp] theorem binX_quo : binX X .quo D (.int k a) (.int k b) = match X k with
  | true => if 0 < b ∧ 0 ≤ a ∧ a ≤ hi k then some (.int k (a / b)) else none
  | false => if b = 0 then none else some (.int k (k.wrap (a.tdiv b))) := by
  simp only [binX]; cases X k <;> simp [binC, intC]
@[simp] theorem binX_rem : binX X .rem D (.int k a) (.int k b) = match X k with
  | true => if 0 < b ∧ 0 ≤ a then some (.int k (a % b)) else none
  | false => if b = 0 then none else some (.int k (a.tmod b)) := by
  simp only [binX]; cases X k <;> simp [binC, intC]
@[simp] theorem binX_shl (k' : IntKind) : binX X .shl D (.int k a) (.int k' b) = match X k with
  | true => if 0 ≤ b ∧ b ≤ k.bits ∧ lo k ≤ a * 2 ^ b.toNat ∧ a * 2 ^ b.toNat ≤ hi k then some (.int k (a * 2 ^ b.toNat)) else none
  | false => if 0 ≤ b then some (.int k (k.wrap (a * 2 ^ min b.toNat k.bits))) else none := rfl
@[simp] theorem binX_shr (k' : IntKind) : binX X .shr D (.int k a) (.int k' b) = match X k with
  | true => if 0 ≤ b ∧ b ≤ k.bits then some (.int k (a / 2 ^ b.toNat)) else none
  | false => if 0 ≤ b then some (.int k (a.fdiv (2 ^ min b.toNat k.bits))) else none := rfl
@[simp] theorem binX_lss : binX X .lss D (.int k a) (.int k b) = some (.bool (decide (a < b))) := by simp [binX, binC, cmpC]
@[simp] theorem binX_gtr : binX X .gtr D (.int k a) (.int k b) = some (.bool (decide (b < a))) := by simp [binX, binC, cmpC]
@[simp] theorem binX_leq : binX X .leq D (.int k a) (.int k b) = some (.bool (decide (a ≤ b))) := by simp [binX, binC, cmpC]
@[simp] theorem binX_geq : binX X .geq D (.int k a) (.int k b) = some (.bool (decide (b ≤ a))) := by simp [binX, binC, cmpC]
@[simp] theorem binX_eql : binX X .eql D (.int k a) (.int k b) = some (.bool (decide (a = b))) := by
  simp only [binX, binC, cmpC, if_true, Option.some.injEq, Value.bool.injEq]
  by_cases h : a = b <;> simp [h]
@[simp] theorem binX_neq : binX X .neq D (.int k a) (.int k b) = some (.bool (!decide (a = b))) := by
  simp only [binX, binC, cmpC, if_true, Option.some.injEq, Value.bool.injEq]
  by_cases h : a = b <;> simp [h]
@[simp] theorem binX_and : binX X .and D (.int k a) (.int k b) = some (.int k (Go.bits .and k a b)) := by simp [binX, binC, intC]
@[simp] theorem binX_or : binX X .or D (.int k a) (.int k b) = some (.int k (Go.bits .or k a b)) := by simp [binX, binC, intC]
@[simp] theorem binX_xor : binX X .xor D (.int k a) (.int k b) = some (.int k (Go.bits .xor k a b)) := by simp [binX, binC, intC]
@[simp] theorem binX_andNot : binX X .andNot D (.int k a) (.int k b) = some (.int k (Go.bits .andNot k a b)) := by simp [binX, binC, intC]
@[simp] theorem binX_seq (x y : ByteArray) : binX X .eql D (.string x) (.string y) = some (.bool (x.toList == y.toList)) := nd rfl
@[simp] theorem binX_sne (x y : ByteArray) : binX X .neq D (.string x) (.string y) = some (.bool (!(x.toList == y.toList))) := nd rfl
@[simp] theorem binX_slt (x y : ByteArray) : binX X .lss D (.string x) (.string y) = some (.bool (Op.bytesLess x.toList y.toList)) := nd rfl
@[simp] theorem binX_cat (x y : ByteArray) : binX X .add D (.string x) (.string y) = if x.size + y.size ≤ 9223372036854775807 then some (.string (x ++ y)) else none := nd rfl
/-- What is held against each other by its type. -/
def eqD (D : TD) (x y : Value) : Option Bool := eqC D x y
@[simp] theorem binX_eqB (x : Bool) (y : Value) : binX X .eql D (.bool x) y = (eqD D (.bool x) y).map fun b => .bool b := nd rfl
@[simp] theorem binX_neB (x : Bool) (y : Value) : binX X .neq D (.bool x) y = (eqD D (.bool x) y).map fun b => .bool (!b) := nd rfl
@[simp] theorem binX_eqA (x : Array Value) (y : Value) : binX X .eql D (.agg x) y = (eqD D (.agg x) y).map fun b => .bool b := nd rfl
@[simp] theorem binX_neA (x : Array Value) (y : Value) : binX X .neq D (.agg x) y = (eqD D (.agg x) y).map fun b => .bool (!b) := nd rfl
@[simp] theorem binX_eqP (x : Option Addr) (y : Value) : binX X .eql D (.pointer x) y = (eqD D (.pointer x) y).map fun b => .bool b := nd rfl
@[simp] theorem binX_neP (x : Option Addr) (y : Value) : binX X .neq D (.pointer x) y = (eqD D (.pointer x) y).map fun b => .bool (!b) := nd rfl
@[simp] theorem binX_eqS (x : Option Addr) (l c : Nat) (y : Value) : binX X .eql D (.slice x l c) y = (eqD D (.slice x l c) y).map fun b => .bool b := nd rfl
@[simp] theorem binX_neS (x : Option Addr) (l c : Nat) (y : Value) : binX X .neq D (.slice x l c) y = (eqD D (.slice x l c) y).map fun b => .bool (!b) := nd rfl
@[simp] theorem eqD_bool (z : List Value) (n m : Nat) (f : Bool) (x y : Bool) : eqD ⟨.bool, n, m, z, f⟩ (.bool x) (.bool y) = some (x == y) := nd rfl
@[simp] theorem eqD_agg (d : TypeDesc) (z : List Value) (n m : Nat) (x y : Array Value) : eqD ⟨d, n, m, z, true⟩ (.agg x) (.agg y) = flatEq z x.toList y.toList := nd rfl
@[simp] theorem eqD_ptr (e : TypeId) (z : List Value) (n m : Nat) (f : Bool) (x : Addr) : eqD ⟨.pointer e, n, m, z, f⟩ (.pointer (some x)) (.pointer none) = some false := nd rfl
@[simp] theorem eqD_nil (e : TypeId) (z : List Value) (n m : Nat) (f : Bool) (x : Option Addr) : eqD ⟨.pointer e, n, m, z, f⟩ (.pointer none) (.pointer x) = some x.isNone := nd rfl
@[simp] theorem eqD_slice (e : TypeId) (z : List Value) (n m : Nat) (f : Bool) (x : Option Addr) (l c l' c' : Nat) : eqD ⟨.slice e, n, m, z, f⟩ (.slice x l c) (.slice none l' c') = if c = OPEN ∧ l = 0 then none else some x.isNone := nd rfl
@[simp] theorem flatEq_nil : flatEq [] [] [] = some true := nd rfl
@[simp] theorem flatEq_int (z : Int) (zs xs ys : List Value) : flatEq (.int k z :: zs) (.int k a :: xs) (.int k b :: ys) = (flatEq zs xs ys).map fun r => (a == b) && r := by simp [flatEq]
@[simp] theorem flatEq_bool (z x y : Bool) (zs xs ys : List Value) : flatEq (.bool z :: zs) (.bool x :: xs) (.bool y :: ys) = (flatEq zs xs ys).map fun r => (x == y) && r := nd rfl
@[simp] theorem flatEq_str (z x y : ByteArray) (zs xs ys : List Value) : flatEq (.string z :: zs) (.string x :: xs) (.string y :: ys) = (flatEq zs xs ys).map fun r => (x == y) && r := nd rfl
@[simp] theorem unX_not (x : Bool) : unX X .not (.bool x) = some (.bool (!x)) := nd rfl
@[simp] theorem unX_neg (n : Int) : unX X .neg (.int k n) = exactI X k (0 - n) := nd rfl
@[simp] theorem unX_xor (n : Int) : unX X .xor (.int k n) = some (.int k (Go.bits .xor k (if k.signed then -1 else k.max) n)) := nd rfl
end
section
variable (h : Heap)
/-- A number, as another kind. -/
def toKind (X : Mode) (D : TD) (n : Int) : Option Value :=
  match D.desc with
  | .int k => exactI X k n
  | _ => none
@[simp] theorem toKind_int (k : IntKind) (n m : Nat) (z : List Value) (f : Bool) (x : Int) : toKind X ⟨.int k, n, m, z, f⟩ x = exactI X k x := nd rfl
@[simp] theorem convX_int (s t : TypeId) (k : IntKind) (n : Int) : convX X ty h s t (.int k n) = (ty t).bind fun d => (ty s).bind fun _ => toKind X d n := nd rfl
def toStr (ty : TypeId → Option TD) (h : Heap) (D S : TD) (v : Value) : Option Value :=
  match D.desc with
  | .string => match S.desc with
    | .slice e => (ty e).bind fun de => match de.desc with
      | .int .u8 => (rowOf 1 h v).bind fun l => (strOf l).map fun b => .string ⟨b.toArray⟩
      | _ => none
    | _ => none
  | _ => none
@[simp] theorem convX_slice (s t : TypeId) (a : Option Addr) (n c : Nat) : convX X ty h s t (.slice a n c) = (ty t).bind fun d => (ty s).bind fun ds => toStr ty h d ds (.slice a n c) := nd rfl
def byteD (ty : TypeId → Option TD) (e : TypeId) : Bool :=
  match ty e with
  | some d => match d.desc with
    | .int .u8 => true
    | _ => false
  | none => false
@[simp] theorem toStr_bytes (n m n' m' : Nat) (z z' : List Value) (f f' : Bool) (e : TypeId) (v : Value) (hb : byteD ty e = true) : toStr ty h ⟨.string, n, m, z, f⟩ ⟨.slice e, n', m', z', f'⟩ v = (rowOf 1 h v).bind fun l => (strOf l).map fun b => .string ⟨b.toArray⟩ := by
  unfold byteD at hb
  simp only [toStr]
  cases he : ty e with
  | none => simp [he] at hb
  | some d =>
    simp only [he] at hb
    simp only [Option.bind_some]
    split at hb
    · rfl
    · simp at hb
def strStr (D S : TD) (b : ByteArray) : Option Value :=
  match D.desc with
  | .string => match S.desc with
    | .slice _ => none
    | .int _ => none
    | .unsafePointer => none
    | _ => some (.string b)
  | _ => none
@[simp] theorem convX_string (s t : TypeId) (b : ByteArray) : convX X ty h s t (.string b) = (ty t).bind fun d => (ty s).bind fun ds => strStr d ds b := nd rfl
@[simp] theorem strStr_eq (n m n' m' : Nat) (z z' : List Value) (f f' : Bool) (b : ByteArray) : strStr ⟨.string, n, m, z, f⟩ ⟨.string, n', m', z', f'⟩ b = some (.string b) := nd rfl
@[simp] theorem rowOf_none (sz n c : Nat) : rowOf sz h (.slice none n c) = some [] := nd rfl
@[simp] theorem rowOf_some (sz i k n c : Nat) : rowOf sz h (.slice (some ⟨i, k, none⟩) n c) = (cellsAt h i).bind fun cs => slc cs k (n * sz) := nd rfl
@[simp] theorem rowOf_str (sz : Nat) (s : ByteArray) : rowOf sz h (.string s) = some (u8s s.data.toList) := nd rfl
def cellsB (b : Option Blk) : Option (List Value) :=
  match b with
  | some (.cells cs _ _) => some cs
  | some (.void _) => some []
  | _ => none
@[simp] theorem cellsB_void (u : Nat) : cellsB (some (.void u)) = some [] := nd rfl
@[simp] theorem cellsB_grown (cs : List Value) (u : Nat) : cellsB (some (grown cs u)) = some cs := by cases cs <;> rfl
@[simp] theorem cellsB_eq (cs : List Value) (o : Bool) (u : Nat) : cellsB (some (.cells cs o u)) = some cs := nd rfl
@[simp] theorem cellsAt_eq (i : Nat) : cellsAt h i = cellsB (hget h i) := nd rfl
@[simp] theorem isSliceD_slice (e : TypeId) (n m : Nat) (z : List Value) (f : Bool) : isSliceD (some ⟨.slice e, n, m, z, f⟩) = true := nd rfl
@[simp] theorem isSliceD_int (e : IntKind) (n m : Nat) (z : List Value) (f : Bool) : isSliceD (some ⟨.int e, n, m, z, f⟩) = false := nd rfl
@[simp] theorem isSliceD_string (n m : Nat) (z : List Value) (f : Bool) : isSliceD (some ⟨.string, n, m, z, f⟩) = false := nd rfl
@[simp] theorem loadC_ptr (D : TD) (i k : Nat) : loadC D h (.pointer (some ⟨i, k, none⟩)) = (cellsB (hget h i)).bind fun cs => if isAggD D.desc = true then (slc cs k D.size).map fun l => .agg l.toArray else cs[k]? := by
  simp only [loadC, cellsAt_eq]
  cases cellsB (hget h i) <;> rfl
def ownB (b : Option Blk) : Option (List Value × Nat) :=
  match b with
  | some (.cells cs true u) => some (cs, u)
  | _ => none
@[simp] theorem ownB_grown (cs : List Value) (u : Nat) : ownB (some (grown cs u)) = if cs = [] then none else some (cs, u) := by cases cs <;> rfl
theorem cells_grown {cs : List Value} (h : cs ≠ []) (u : Nat) : Blk.cells cs true u = grown cs u := by cases cs <;> first | rfl | exact absurd rfl h
@[simp] theorem ownB_eq (cs : List Value) (u : Nat) : ownB (some (.cells cs true u)) = some (cs, u) := nd rfl
@[simp] theorem storeC_ptr (D : TD) (i k : Nat) (x : Value) : storeC D h (.pointer (some ⟨i, k, none⟩)) x = (ownB (hget h i)).bind fun p => if k + D.size ≤ p.1.length ∧ x.cells.toList.length = D.size ∧ x.cells.toList.all one1 = true then some (h.set i (some (.cells (setL p.1 k x.cells.toList) true p.2))) else none := by
  simp only [storeC]
  cases hb : hget h i with
  | none => rfl
  | some b =>
    cases b with
    | map es c => rfl
    | void u => rfl
    | cells cs o u => cases o <;> rfl
@[simp] theorem cells_int (k : IntKind) (n : Int) : (Value.int k n).cells = #[.int k n] := nd rfl
@[simp] theorem cells_bool (b : Bool) : (Value.bool b).cells = #[.bool b] := nd rfl
@[simp] theorem cells_string (b : ByteArray) : (Value.string b).cells = #[.string b] := nd rfl
@[simp] theorem cells_ptr (b : Option Addr) : (Value.pointer b).cells = #[.pointer b] := nd rfl
@[simp] theorem cells_slice (b : Option Addr) (l c : Nat) : (Value.slice b l c).cells = #[.slice b l c] := nd rfl
@[simp] theorem cells_iface (t : TypeId) (x : Value) : (Value.iface t x).cells = #[.iface t x] := nd rfl
@[simp] theorem cells_nilI : (Value.nilIface).cells = #[.nilIface] := nd rfl
@[simp] theorem cells_func (f : Go.Fn) (a b : Array Value) : (Value.func f a b).cells = #[.func f a b] := nd rfl
@[simp] theorem cells_agg (xs : Array Value) : (Value.agg xs).cells = xs := nd rfl
@[simp] theorem one1_int (k : IntKind) (n : Int) : one1 (.int k n) = true := nd rfl
@[simp] theorem one1_bool (b : Bool) : one1 (.bool b) = true := nd rfl
@[simp] theorem one1_string (b : ByteArray) : one1 (.string b) = true := nd rfl
@[simp] theorem one1_ptr (b : Option Addr) : one1 (.pointer b) = true := nd rfl
@[simp] theorem one1_slice (b : Option Addr) (l c : Nat) : one1 (.slice b l c) = true := nd rfl
@[simp] theorem one1_iface (t : TypeId) (x : Value) : one1 (.iface t x) = true := nd rfl
@[simp] theorem one1_func (f : Go.Fn) (a b : Array Value) : one1 (.func f a b) = true := nd rfl
@[simp] theorem one1_nilI : one1 .nilIface = true := nd rfl
attribute [simp] setL isAggD
@[simp] theorem slc_eq (cs : List Value) (o n : Nat) : slc cs o n = if o + n ≤ cs.length then some ((cs.drop o).take n) else none := nd rfl
def idxA (ty : TypeId → Option TD) (D : TypeDesc) (x i : Value) : Option Value :=
  match D with
    | .slice e => (ty e).bind fun d' => match x with
      | .slice (some ⟨b, k, none⟩) len _ => match i with
        | .int _ j => if 0 ≤ j ∧ j < (len : Int) then some (.pointer (some ⟨b, k + j.toNat * d'.size, none⟩)) else none
        | _ => none
      | _ => none
    | .array n e => (ty e).bind fun d' => match x with
      | .pointer (some ⟨b, k, none⟩) => match i with
        | .int _ j => if 0 ≤ j ∧ j < (n : Int) then some (.pointer (some ⟨b, k + j.toNat * d'.size, none⟩)) else none
        | _ => none
      | _ => none
    | _ => none
@[simp] theorem indexAddrC_eq (t : TypeId) (x i : Value) : indexAddrC ty t x i = (ty t).bind fun d => idxA ty d.desc x i := by
  unfold indexAddrC idxA
  cases ty t <;> rfl
@[simp] theorem idxA_slice (e : TypeId) (b k len c : Nat) (q : IntKind) (j : Int) : idxA ty (.slice e) (.slice (some ⟨b, k, none⟩) len c) (.int q j) = (ty e).bind fun d' => if 0 ≤ j ∧ j < (len : Int) then some (.pointer (some ⟨b, k + j.toNat * d'.size, none⟩)) else none := nd rfl
@[simp] theorem idxA_array (n : Nat) (e : TypeId) (b k : Nat) (q : IntKind) (j : Int) : idxA ty (.array n e) (.pointer (some ⟨b, k, none⟩)) (.int q j) = (ty e).bind fun d' => if 0 ≤ j ∧ j < (n : Int) then some (.pointer (some ⟨b, k + j.toNat * d'.size, none⟩)) else none := nd rfl
@[simp] theorem partC_eq (D : TD) (cs : List Value) (o : Nat) : partC D cs o = if isAggD D.desc = true then (slc cs o D.size).map fun l => .agg l.toArray else cs[o]? := nd rfl
def idxV (ty : TypeId → Option TD) (D : TypeDesc) (x i : Value) : Option Value :=
  match D with
    | .array n e => (ty e).bind fun d' => match x with
      | .agg cs => match i with
        | .int _ j => if 0 ≤ j ∧ j < (n : Int) then partC d' cs.toList (j.toNat * d'.size) else none
        | _ => none
      | _ => none
    | .string => match x with
      | .string s => match i with
        | .int _ j => if 0 ≤ j then (s.data.toList[j.toNat]?).map fun b => .int .u8 b.toNat else none
        | _ => none
      | _ => none
    | _ => none
@[simp] theorem indexC_eq (t : TypeId) (x i : Value) : indexC ty t x i = (ty t).bind fun d => idxV ty d.desc x i := by
  unfold indexC idxV
  cases ty t <;> rfl
@[simp] theorem idxV_array (n : Nat) (e : TypeId) (cs : Array Value) (q : IntKind) (j : Int) : idxV ty (.array n e) (.agg cs) (.int q j) = (ty e).bind fun d' => if 0 ≤ j ∧ j < (n : Int) then partC d' cs.toList (j.toNat * d'.size) else none := nd rfl
@[simp] theorem idxV_string (s : ByteArray) (q : IntKind) (j : Int) : idxV ty .string (.string s) (.int q j) = if 0 ≤ j then (s.data.toList[j.toNat]?).map fun b => .int .u8 b.toNat else none := nd rfl
def fldV (ty : TypeId → Option TD) (D : TypeDesc) (x : Value) (f : Nat) : Option Value :=
  match D with
    | .struct fs => (fs[f]?).bind fun fd => (ty fd.type).bind fun d' => match x with
      | .agg cs => partC d' cs.toList fd.offset
      | _ => none
    | _ => none
@[simp] theorem fieldC_eq (t : TypeId) (x : Value) (f : Nat) : fieldC ty t x f = (ty t).bind fun d => fldV ty d.desc x f := by
  unfold fieldC fldV
  cases ty t <;> rfl
@[simp] theorem fldV_eq (fs : Array Field) (cs : Array Value) (f : Nat) : fldV ty (.struct fs) (.agg cs) f = (fs[f]?).bind fun fd => (ty fd.type).bind fun d' => partC d' cs.toList fd.offset := nd rfl
def fldA (ty : TypeId → Option TD) (D : TypeDesc) (x : Value) (f : Nat) : Option Value :=
  match D with
    | .struct fs => (fs[f]?).bind fun fd => (ty fd.type).bind fun d' => if d'.size = 0 then none else match x with
      | .pointer (some ⟨b, k, none⟩) => some (.pointer (some ⟨b, k + fd.offset, none⟩))
      | _ => none
    | _ => none
@[simp] theorem fieldAddrC_eq (t : TypeId) (x : Value) (f : Nat) : fieldAddrC ty t x f = (ty t).bind fun d => fldA ty d.desc x f := by
  unfold fieldAddrC fldA
  cases ty t <;> rfl
@[simp] theorem fldA_eq (fs : Array Field) (b k : Nat) (f : Nat) : fldA ty (.struct fs) (.pointer (some ⟨b, k, none⟩)) f = (fs[f]?).bind fun fd => (ty fd.type).bind fun d' => if d'.size = 0 then none else some (.pointer (some ⟨b, k + fd.offset, none⟩)) := nd rfl
def lenD (D : TypeDesc) (x : Value) : Option Value :=
  match D with
      | .slice _ => match x with
        | .slice _ n _ => some (.int .i64 n)
        | _ => none
      | .string => match x with
        | .string s => some (.int .i64 s.size)
        | _ => none
      | .array n _ => some (.int .i64 n)
      | _ => none
@[simp] theorem builtP_len (ats : Array TypeId) (x : Value) (r : List Value) : builtP ty ats .len (x :: r) = (ats[0]?).bind fun t => (ty t).bind fun d => lenD d.desc x := by
  simp only [builtP]
  cases ats[0]? with
  | none => rfl
  | some t => cases ty t <;> rfl
@[simp] theorem lenD_slice (e : TypeId) (a : Option Addr) (n c : Nat) : lenD (.slice e) (.slice a n c) = some (.int .i64 n) := nd rfl
@[simp] theorem lenD_string (s : ByteArray) : lenD .string (.string s) = some (.int .i64 s.size) := nd rfl
@[simp] theorem lenD_array (n : Nat) (e : TypeId) (x : Value) : lenD (.array n e) x = some (.int .i64 n) := nd rfl
@[simp] theorem builtP_min (ats : Array TypeId) (x : Value) (r : List Value) : builtP ty ats .min (x :: r) = foldC minC x r := nd rfl
@[simp] theorem builtP_max (ats : Array TypeId) (x : Value) (r : List Value) : builtP ty ats .max (x :: r) = foldC maxC x r := nd rfl
@[simp] theorem foldC_nil (f : Value → Value → Option Value) (x : Value) : foldC f x [] = some x := nd rfl
@[simp] theorem foldC_cons (f : Value → Value → Option Value) (x y : Value) (r : List Value) : foldC f x (y :: r) = (f x y).bind fun z => foldC f z r := nd rfl
@[simp] theorem minC_eq (k : IntKind) (a b : Int) : minC (.int k a) (.int k b) = some (.int k (if b < a then b else a)) := nd rfl
@[simp] theorem maxC_eq (k : IntKind) (a b : Int) : maxC (.int k a) (.int k b) = some (.int k (if b > a then b else a)) := nd rfl
def mkS (ty : TypeId → Option TD) (D : TypeDesc) (l c : Value) (h : Heap) : Option (Value × Heap) :=
  match D with
    | .slice e => (ty e).bind fun d' => match l with
      | .int _ n => match c with
        | .int _ m => if 0 ≤ n ∧ n = m ∧ n * d'.bytes ≤ 281474976710656 ∧ n ≤ 9223372036854775807 then some (.slice (some ⟨h.length, 0, none⟩) n.toNat n.toNat, h ++ [some (.cells (zerosN d'.zero n.toNat) true 0)]) else none
        | _ => none
      | _ => none
    | _ => none
@[simp] theorem semA_makeSlice (t : TypeId) (l c : Operand) (tm : List (Nat × Ent)) : semA ty (.makeSlice t l c) tm h = (ty t).bind fun d => (ev true tm l).bind fun l => (ev true tm c).bind fun c => mkS ty d.desc l c h := by
  simp only [semA]
  cases ty t with
  | none => rfl
  | some d =>
    simp only [Option.bind_some]
    rcases d with ⟨dd, a1, a2, a3, a4⟩
    cases dd <;> cases ev true tm l <;> cases ev true tm c <;> simp [mkS] <;> rfl
@[simp] theorem mkS_eq (e : TypeId) (q r : IntKind) (n m : Int) : mkS ty (.slice e) (.int q n) (.int r m) h = (ty e).bind fun d' => if 0 ≤ n ∧ n = m ∧ n * d'.bytes ≤ 281474976710656 ∧ n ≤ 9223372036854775807 then some (.slice (some ⟨h.length, 0, none⟩) n.toNat n.toNat, h ++ [some (.cells (zerosN d'.zero n.toNat) true 0)]) else none := nd rfl
end
@[simp] theorem lo_i64 : lo .i64 = -9223372036854775808 := nd rfl
@[simp] theorem hi_i64 : hi .i64 = 9223372036854775807 := nd rfl
@[simp] theorem bits_i64 : IntKind.bits .i64 = 64 := nd rfl
@[simp] theorem lo_i32 : lo .i32 = -2147483648 := nd rfl
@[simp] theorem hi_i32 : hi .i32 = 2147483647 := nd rfl
@[simp] theorem bits_i32 : IntKind.bits .i32 = 32 := nd rfl
@[simp] theorem lo_i16 : lo .i16 = -32768 := nd rfl
@[simp] theorem hi_i16 : hi .i16 = 32767 := nd rfl
@[simp] theorem bits_i16 : IntKind.bits .i16 = 16 := nd rfl
@[simp] theorem lo_i8 : lo .i8 = -128 := nd rfl
@[simp] theorem hi_i8 : hi .i8 = 127 := nd rfl
@[simp] theorem bits_i8 : IntKind.bits .i8 = 8 := nd rfl
@[simp] theorem lo_u64 : lo .u64 = 0 := nd rfl
@[simp] theorem hi_u64 : hi .u64 = 18446744073709551615 := nd rfl
@[simp] theorem bits_u64 : IntKind.bits .u64 = 64 := nd rfl
@[simp] theorem lo_u32 : lo .u32 = 0 := nd rfl
@[simp] theorem hi_u32 : hi .u32 = 4294967295 := nd rfl
@[simp] theorem bits_u32 : IntKind.bits .u32 = 32 := nd rfl
@[simp] theorem lo_u16 : lo .u16 = 0 := nd rfl
@[simp] theorem hi_u16 : hi .u16 = 65535 := nd rfl
@[simp] theorem bits_u16 : IntKind.bits .u16 = 16 := nd rfl
@[simp] theorem lo_u8 : lo .u8 = 0 := nd rfl
@[simp] theorem hi_u8 : hi .u8 = 255 := nd rfl
@[simp] theorem bits_u8 : IntKind.bits .u8 = 8 := nd rfl
/-! ### Heaps: what stood at the beginning, and what came -/
@[simp] theorem hget_new0 (H L : Heap) : hget (H ++ L) H.length = hget L 0 := by
  have e := hget_append_new (h := H) (g := L) (k := 0)
  exact e
@[simp] theorem hget_newk (H L : Heap) (k : Nat) : hget (H ++ L) (H.length + k) = hget L k := hget_append_new
@[simp] theorem hget_0 (b : Option Blk) (L : Heap) : hget (b :: L) 0 = b := by cases b <;> rfl
@[simp] theorem hget_s (b : Option Blk) (L : Heap) (k : Nat) : hget (b :: L) (k + 1) = hget L k := nd rfl
theorem hget_old {H : Heap} {i : Nat} {b : Blk} (h : hget H i = some b) (L : Heap) : hget (H ++ L) i = some b := by rw [hget_append (hget_lt h)]; exact h
@[simp] theorem hset_new0 (H L : Heap) (b : Option Blk) : (H ++ L).set H.length b = H ++ L.set 0 b := by rw [List.set_append_right _ _ (Nat.le_refl _), Nat.sub_self]
@[simp] theorem hset_newk (H L : Heap) (k : Nat) (b : Option Blk) : (H ++ L).set (H.length + k) b = H ++ L.set k b := by rw [List.set_append_right _ _ (by omega), Nat.add_sub_cancel_left]
attribute [simp] u8s_length u8s_take u8s_drop u8s_append
@[simp] theorem req_u8s (l : List UInt8) (k : Nat) (K : Value → Prop) : req (u8s l)[k]? K = (k < l.length ∧ K (.int .u8 (ix l k).toNat)) := by
  rw [u8s_get, req_map, req_get]; rfl
theorem wrap_u8_nat (n : Nat) : IntKind.u8.wrap (n : Int) = ((UInt8.ofNat n).toNat : Int) := by
  simp [IntKind.wrap, IntKind.bits, IntKind.signed]
theorem u8s_put (l : List UInt8) (k : Nat) (n : Nat) : (u8s l).set k (.int .u8 (IntKind.u8.wrap (n : Int))) = u8s (l.set k (UInt8.ofNat n)) := by
  rw [wrap_u8_nat, u8s_set]
theorem blockC_normal (id : Nat) (Q : Exit → St → Prop) (s : St) : blockC id Q .normal s = Q .normal s := rfl
theorem blockC_ret (id : Nat) (Q : Exit → St → Prop) (s : St) : blockC id Q .ret s = Q .ret s := rfl
def byteB (D : Option TD) : Bool :=
  match D with
  | some d => match d.desc with
    | .int .u8 => true
    | _ => false
  | none => false
@[simp] theorem byteD_eq (e : TypeId) : byteD ty e = byteB (ty e) := nd rfl
@[simp] theorem byteB_u8 (n m : Nat) (z : List Value) (f : Bool) : byteB (some ⟨.int .u8, n, m, z, f⟩) = true := nd rfl
@[simp] theorem strOf_u8s' (l : List UInt8) : strOf (u8s l) = some l := strOf_u8s l
theorem bytes_loop (bs : ByteArray) : ∀ (m i : Nat) (r : List UInt8), bs.size - i = m → ByteArray.toList.loop bs i r = r.reverse ++ bs.data.toList.drop i := by
  intro m
  induction m with
  | zero =>
    intro i r h
    unfold ByteArray.toList.loop
    have hs : bs.size = bs.data.toList.length := rfl
    rw [if_neg (by omega), List.drop_eq_nil_of_le (by omega), List.append_nil]
  | succ m ih =>
    intro i r h
    unfold ByteArray.toList.loop
    have hs : bs.size = bs.data.toList.length := rfl
    rw [if_pos (by omega), ih (i + 1) _ (by omega)]
    have hi : i < bs.data.toList.length := by omega
    rw [List.drop_eq_getElem_cons hi, List.reverse_cons, List.append_assoc]
    congr 2
    have hi' : i < bs.data.size := by simpa using hi
    simp only [ByteArray.get!]
    rw [getElem!_pos bs.data i hi']
    simp
theorem bytes_toList (bs : ByteArray) : bs.toList = bs.data.toList := by
  unfold ByteArray.toList
  rw [bytes_loop bs _ 0 [] rfl]; simp
attribute [simp] bytes_toList
end Go.Sx
end
section
/-
  Sx, part V: the way in and out: arguments that are only read. Own words; no condition.
-/
namespace Go.Sx
open Go Go.RowKit
variable {P : Program}
theorem relH_of {ι : List Place} {h : Heap} {w : World} (hl : ι.length = h.length) (hb : ∀ i b, hget h i = some b → owns b = false ∧ ∃ p, ι[i]? = some p ∧ BlkR ι w p b) : RelH ι h w :=
  ⟨hl, fun i b hi => (hb i b hi).2, fun i j b c p q h1 h2 => by have := (hb i b h1).1; rw [h2] at this; cases this⟩
theorem below_of {ι κ : List Place} {h h' : Heap} {w w' : World} (g : Grow ι h w κ h' w') (hno : ∀ i b, hget h i = some b → owns b = false) : Below w.heap.size w w' :=
  ⟨g.os, g.tape, g.output, g.size, fun b hb => g.keep b hb fun i c p h1 h2 => by have := hno i c h1; rw [h2] at this; cases this⟩
/-- A law's run: it returns true, and nothing that stood has turned. -/
theorem law_run {f : FuncId} {args args' : List Value} {h : Heap} {ι : List Place} {w : World} (hf : Fn P f args h fun v _ => v = .bool true) (hl : ι.length = h.length) (hb : ∀ i b, hget h i = some b → owns b = false ∧ ∃ p, ι[i]? = some p ∧ BlkR ι w p b) (hv : VRs ι args args') :
    Calls P f args'.toArray w fun e w' => e = .returned (.bool true) ∧ Below w.heap.size w w' :=
  Calls.mono (hf.2 ι w args' (relH_of hl hb) hv) fun e w' ⟨κ, v, y, h', hR, he, hv, _, g⟩ => by
    subst hR; subst he
    exact ⟨by rw [hv.bool_inv], below_of g fun i b hi => (hb i b hi).1⟩
/-- A slice that is only read: l are its n cells. -/
def Row (H : Heap) (a : Option Addr) (n c : Nat) (l : List Value) : Prop :=
  l.length = n ∧ c ≠ OPEN ∧ n ≤ c ∧ ((a = none ∧ n = 0 ∧ c = 0) ∨ ∃ i k cs o u, a = some ⟨i, k, none⟩ ∧ hget H i = some (.cells cs o u) ∧ k + n ≤ cs.length ∧ (cs.drop k).take n = l)
theorem Row.get {H : Heap} {a : Option Addr} {n c : Nat} {l : List Value} (r : Row H a n c l) {j : Nat} (hj : j < n) :
    ∃ i k cs o u, a = some ⟨i, k, none⟩ ∧ hget H i = some (.cells cs o u) ∧ k + n ≤ cs.length ∧ cs[k + j]? = l[j]? := by
  obtain ⟨h1, _, _, h2⟩ := r
  rcases h2 with ⟨_, h, _⟩ | ⟨i, k, cs, o, u, rfl, hc, hk, rfl⟩
  · omega
  · exact ⟨i, k, cs, o, u, rfl, hc, hk, by rw [List.getElem?_take_of_lt hj, List.getElem?_drop]⟩
end Go.Sx
end
section
/-
  Sx, part X: running code on canonical states; what a run gives is what a call gives. Own words; no condition.
-/
namespace Go.Sx
open Go
noncomputable section
section
variable (P : Program) (ty : TypeId → Option TD) (N : Nat)
/-- A call, as it is run. -/
abbrev Run := FuncId → List Value → Heap → Option (Value × Heap)
def setT (t : Nat) (e : Ent) : List (Nat × Ent) → List (Nat × Ent)
  | [] => [(t, e)]
  | (a, x) :: r => match Nat.beq a t with
    | true => (a, e) :: r
    | false => (a, x) :: setT t e r
def setD (d : Option Tmp) (e : Ent) (tm : List (Nat × Ent)) : List (Nat × Ent) :=
  match d with
  | some t => setT t e tm
  | none => tm
def execE (run : Run) (o : Op) (s : St) : Option (Value × Heap) :=
  match callee s.tm o with
  | some p => run p.1 p.2 s.h
  | none => match kindA ty o with
    | true => semA ty o s.tm s.h
    | false => match semP ty true o s.tm s.h with
      | some v => some (v, s.h)
      | none => none
def stepE (run : Run) (all : List Oper) (o : Oper) (s : St) : Option St :=
  match dstOk N o with
  | false => none
  | true => match o.guard with
    | none => match execE ty run o.op s with
      | some (v, h') => some ⟨setD o.dst (.v v) s.tm, h'⟩
      | none => none
    | some g => match guardSlot all g with
      | none => none
      | some t => match (lk s.tm t).bind guardW with
        | none => none
        | some none => some ⟨setD o.dst (.v undef) s.tm, s.h⟩
        | some (some b) => match b == g.2 with
          | true => match execE ty run o.op s with
            | some (v, h') => some ⟨setD o.dst (.v v) s.tm, h'⟩
            | none => none
          | false => some ⟨setD o.dst (.v undef) s.tm, s.h⟩
def opsE (run : Run) (all : List Oper) : List Oper → St → Option St
  | [], s => some s
  | o :: os, s => match stepE ty N run all o s with
    | some s' => opsE run all os s'
    | none => none
end
end
variable {P : Program} {ty : TypeId → Option TD} {N : Nat}
/-- What is run is so. -/
def RunOk (P : Program) (run : Run) : Prop := ∀ f args h v h', run f args h = some (v, h') → Fn P f args h fun r g => r = v ∧ g = h'
theorem lk_setT (t : Nat) (e : Ent) : ∀ (tm : List (Nat × Ent)) (u : Nat), lk (setT t e tm) u = if t = u then some e else lk tm u
  | [], u => by simp [setT, lk]
  | (a, x) :: r, u => by
    unfold setT
    split
    · rename_i hb
      have := Nat.eq_of_beq_eq_true hb
      subst this
      by_cases hu : a = u <;> simp [lk, hu]
    · rename_i hb
      have := Nat.ne_of_beq_eq_false hb
      by_cases hu : a = u
      · subst hu; simp [lk, Ne.symm this]
      · simp [lk, hu, lk_setT t e r u]
theorem lk_setD (d : Option Tmp) (e : Ent) (tm : List (Nat × Ent)) (t : Nat) : lk (setD d e tm) t = lk (put d e tm) t := by
  cases d with
  | none => rfl
  | some u => rw [setD, lk_setT, lk_put]; simp
theorem Goes.slots {ι : List Place} {h : Heap} {w : World} {d : Option Tmp} {e : Ent} {tm : List (Nat × Ent)} {h' : Heap} {a' : Act} {w' : World}
    (g : Goes ι h w N (fun z => z = ⟨put d e tm, h'⟩) a' w') : Goes ι h w N (fun z => z = ⟨setD d e tm, h'⟩) a' w' := by
  obtain ⟨κ, s', rfl, L, g⟩ := g
  exact ⟨κ, _, rfl, Like.byNumber (fun t => lk_setD d e tm t) L, g⟩
theorem execE_exec {run : Run} (hr : RunOk P run) {o : Oper} {s : St} {v : Value} {h' : Heap} (h : execE ty run o.op s = some (v, h')) : exec P ty o (fun z => z = ⟨put o.dst (.v v) s.tm, h'⟩) s := by
  unfold execE at h
  unfold exec
  split at h
  · rename_i p hc
    obtain ⟨f, args⟩ := p
    simp only [hc]
    exact CallK.of (hr f args s.h v h' h) fun _ _ ⟨a, b⟩ => by rw [a, b]
  · rename_i hc
    simp only [hc]
    split at h
    · simp only [h]
    · rename_i hA
      split at h
      · rename_i v' hv
        simp only [Option.some.injEq, Prod.mk.injEq] at h
        obtain ⟨rfl, rfl⟩ := h
        simp only [semA_none hA, hv]
      · simp at h
theorem stepE_sound (T : TyOk P ty) {run : Run} (hr : RunOk P run) {ι : List Place} {s s' : St} {a : Act} {w : World} (L : Like ι s N a w) {ops : Array Oper} {o : Oper} (h : stepE ty N run ops.toList o s = some s') (Q : Exit → Act → World → Prop) :
    if Region.wanted o (yielded ops a.tmps) then o.wp P a w (Goes ι s.h w N (fun z => z = s')) Q else Goes ι s.h w N (fun z => z = s') (a.put o.dst undef) w := by
  unfold stepE at h
  split at h
  · simp at h
  · rename_i hd
    have hlt := dstOk_lt hd
    have skip : Goes ι s.h w N (fun z => z = ⟨setD o.dst (.v undef) s.tm, s.h⟩) (a.put o.dst undef) w :=
      Goes.slots ⟨ι, _, rfl, ⟨L.1, L.2.put hlt undef_VR⟩, .refl _ _ _⟩
    have run1 : ∀ v h', execE ty run o.op s = some (v, h') → o.wp P a w (Goes ι s.h w N (fun z => z = ⟨setD o.dst (.v v) s.tm, h'⟩)) Q := fun v h' hx =>
      Oper.wp_mono (fun _ _ g => g.slots) (exec_sound T L hd (execE_exec hr hx) Q)
    split at h
    · rename_i hg
      rw [if_pos (by simp [Region.wanted, hg])]
      split at h
      · rename_i v h' hx
        simp at h; subst h
        exact run1 v h' hx
      · simp at h
    · rename_i g hg
      split at h
      · simp at h
      · rename_i t ht
        split at h
        · simp at h
        · rename_i hb
          simp only [Option.bind_eq_some_iff] at hb
          obtain ⟨e, he, hb⟩ := hb
          obtain ⟨vs, rfl⟩ := guardW_none hb
          obtain ⟨_, w2⟩ := wanted_of L.2 hg ht he
          rw [w2 vs rfl, if_neg (by decide)]
          simp at h; subst h
          exact skip
        · rename_i b hb
          simp only [Option.bind_eq_some_iff] at hb
          obtain ⟨e, he, hb⟩ := hb
          obtain rfl := guardW_some hb
          obtain ⟨w1, _⟩ := wanted_of L.2 hg ht he
          rw [w1 b rfl]
          split at h
          · rename_i hw
            rw [if_pos hw]
            split at h
            · rename_i v h' hx
              simp at h; subst h
              exact run1 v h' hx
            · simp at h
          · rename_i hw
            rw [if_neg (by rw [hw]; decide)]
            simp at h; subst h
            exact skip
theorem opsE_sound (T : TyOk P ty) {run : Run} (hr : RunOk P run) {ops : Array Oper} {Q : Exit → Act → World → Prop} : ∀ (l : List Oper) {s s' : St} {ι : List Place} {a : Act} {w : World}, Like ι s N a w → opsE ty N run ops.toList l s = some s' →
    (∀ a' w', Goes ι s.h w N (fun z => z = s') a' w' → Q .normal a' w') → wpList P ops Q l a w
  | [], s, s', ι, a, w, L, h, hQ => by
    simp only [opsE, Option.some.injEq] at h; subst h
    exact hQ a w ⟨ι, s, rfl, L, .refl _ _ _⟩
  | o :: os, s, s', ι, a, w, L, h, hQ => by
    simp only [opsE] at h
    split at h
    · rename_i s1 h1
      refine wpList_step fun K' hK' => ?_
      have hs := stepE_sound T hr L (ops := ops) h1 Q
      have next : ∀ a' w', Goes ι s.h w N (fun z => z = s1) a' w' → K' a' w' := by
        rintro a' w' ⟨κ, _, rfl, L', g⟩
        exact hK' _ _ (opsE_sound T hr os L' h fun a'' w'' q => hQ a'' w'' (Goes.trans g q))
      split
      · rename_i hw; rw [if_pos hw] at hs; exact Oper.wp_mono next hs
      · rename_i hw; rw [if_neg hw] at hs; exact next _ _ hs
    · simp at h
end Go.Sx
end
