/-
  Sx, part AW: a body, worked off as a whole by rules: what must be so for it to end well. Own words; no condition.
-/
import Derived.Test.YtfefdjomenfchaaSxO
import Derived.Test.YtfefdjomenfchaaSxsWord
namespace Go.Sx
open Go
variable {P : Program} {X : Mode} {ty : TypeId → Option TD} {N : Nat}
noncomputable section
/-- What must be so ahead of a code; loops, drawn regions and the rest are left. -/
def W (P : Program) (X : Mode) (ty : TypeId → Option TD) (N : Nat) : Code → St → (Exit → St → Prop) → Prop
  | .skip, s, Q => Q .normal s
  | .region _ ops false, s, Q => copsR P X ty N ops.toList ops.toList (Q .normal) s
  | .seq a b, s, Q => W P X ty N a s (thenC (fun s => W P X ty N b s Q) Q)
  | .cond c x y, s, Q => req (ev true s.tm c) fun v => match v with
    | .bool b => two b (W P X ty N x s Q) (W P X ty N y s Q)
    | _ => False
  | .block id c, s, Q => W P X ty N c s (blockC id Q)
  | .exit id, s, Q => Q (.exit id) s
  | .label _, s, Q => Q .normal s
  | .ret, s, Q => Q .ret s
  | c, s, Q => CW P N c s Q
/-- What is left of a code whose rules are not these. -/
def Left (P : Program) (N : Nat) (c : Code) (s : St) (Q : Exit → St → Prop) : Prop := CW P N c s Q
end
theorem W.sound (T : TyOk P ty) : ∀ (c : Code) (s : St) (Q : Exit → St → Prop), W P X ty N c s Q → CW P N c s Q
  | .skip, s, Q, h => cw_skip h
  | .region _ ops false, s, Q, h => fun _ _ _ L => wp_region_list (copsR_sound T _ L h fun _ _ q => q)
  | .region _ ops true, s, Q, h => h
  | .seq a b, s, Q, h => cw_seq fun K hK => by
    refine (W.sound T a s _ h).mono fun e s' q => ?_
    cases e with
    | normal => exact hK s' (W.sound T b s' Q q)
    | _ => exact q
  | .cond c x y, s, Q, h => by
    obtain ⟨v, hv, h⟩ := (req_iff _ _).1 h
    cases v with
    | bool b => exact cw_cond hv (fun e => W.sound T x s Q (h.1 e)) (fun e => W.sound T y s Q (h.2 e))
    | _ => exact h.elim
  | .block id c, s, Q, h => cw_block (W.sound T c s _ h)
  | .exit id, s, Q, h => cw_exit h
  | .label _, s, Q, h => cw_label h
  | .ret, s, Q, h => cw_ret h
  | .loop _, s, Q, h => h
  | .rangeFunc .., s, Q, h => h
  | .scope _, s, Q, h => h
  | .goto _, s, Q, h => h
  | .refuse _, s, Q, h => h
theorem copsR_mono {all : List Oper} : ∀ (os : List Oper) {K K' : St → Prop} (_ : ∀ s, K s → K' s) {s : St}, copsR P X ty N all os K s → copsR P X ty N all os K' s
  | [], _, _, hk, s, h => hk s h
  | o :: os, _, _, hk, _, h => stepR_mono (fun s q => copsR_mono os hk q) h
theorem W.mono' : ∀ {c : Code} {s : St} {Q Q' : Exit → St → Prop}, W P X ty N c s Q → (∀ e s, Q e s → Q' e s) → W P X ty N c s Q'
  | .skip, s, Q, Q', h, k => k _ _ h
  | .region _ ops false, s, Q, Q', h, k => copsR_mono _ (k .normal) h
  | .region _ ops true, s, Q, Q', h, k => CW.mono h k
  | .seq a b, s, Q, Q', h, k => W.mono' (c := a) h fun e s q => by
    cases e with
    | normal => exact W.mono' (c := b) q k
    | _ => exact k _ _ q
  | .cond c x y, s, Q, Q', h, k => by
    obtain ⟨v, hv, h⟩ := (req_iff _ _).1 h
    refine (req_iff _ _).2 ⟨v, hv, ?_⟩
    cases v with
    | bool b => exact ⟨fun e => W.mono' (c := x) (h.1 e) k, fun e => W.mono' (c := y) (h.2 e) k⟩
    | _ => exact h.elim
  | .block id c, s, Q, Q', h, k => W.mono' (c := c) h fun e s q => by
    cases e with
    | exit i =>
      simp only [blockC] at *
      split
      · rename_i hi; rw [if_pos hi] at q; exact k _ _ q
      · rename_i hi; rw [if_neg hi] at q; exact k _ _ q
    | _ => exact k _ _ q
  | .exit id, s, Q, Q', h, k => k _ _ h
  | .label _, s, Q, Q', h, k => k _ _ h
  | .ret, s, Q, Q', h, k => k _ _ h
  | .loop _, s, Q, Q', h, k => CW.mono h k
  | .rangeFunc .., s, Q, Q', h, k => CW.mono h k
  | .scope _, s, Q, Q', h, k => CW.mono h k
  | .goto _, s, Q, Q', h, k => CW.mono h k
  | .refuse _, s, Q, Q', h, k => CW.mono h k
@[congr] theorem W_congr {c : Code} {s s' : St} {Q : Exit → St → Prop} (a : s = s') : W P X ty N c s Q = W P X ty N c s' Q := by rw [a]
@[congr] theorem CW_congr {c : Code} {s s' : St} {Q : Exit → St → Prop} (a : s = s') : CW P N c s Q = CW P N c s' Q := by rw [a]
@[congr] theorem thenC_congr {K : St → Prop} {Q : Exit → St → Prop} {e e' : Exit} {s s' : St} (a : e = e') (b : s = s') : thenC K Q e s = thenC K Q e' s' := by rw [a, b]
@[congr] theorem blockC_congr {i : Nat} {Q : Exit → St → Prop} {e e' : Exit} {s s' : St} (a : e = e') (b : s = s') : blockC i Q e s = blockC i Q e' s' := by rw [a, b]
attribute [simp] blockC_normal blockC_ret
section
variable (s : St) (tm : List (Nat × Ent)) (h : Heap) (Q : Exit → St → Prop)
@[simp] theorem W_skip : W P X ty N .skip s Q = Q .normal s := nd rfl
@[simp] theorem W_region (id : Nat) (ops : Array Oper) : W P X ty N (.region id ops false) ⟨tm, h⟩ Q = copsR P X ty N ops.toList ops.toList (Q .normal) ⟨tm, h⟩ := nd rfl
@[simp] theorem W_draw (id : Nat) (ops : Array Oper) : W P X ty N (.region id ops true) ⟨tm, h⟩ Q = CW P N (.region id ops true) ⟨tm, h⟩ Q := nd rfl
@[simp] theorem W_seq (a b : Code) : W P X ty N (.seq a b) s Q = W P X ty N a s (thenC (fun s => W P X ty N b s Q) Q) := nd rfl
/-- A test. -/
def tst (P : Program) (X : Mode) (ty : TypeId → Option TD) (N : Nat) (x y : Code) (s : St) (Q : Exit → St → Prop) (v : Value) : Prop :=
  match v with
  | .bool b => two b (W P X ty N x s Q) (W P X ty N y s Q)
  | _ => False
@[congr] theorem tst_congr {x y : Code} {s s' : St} {Q : Exit → St → Prop} {v v' : Value} (a : s = s') (b : v = v') : tst P X ty N x y s Q v = tst P X ty N x y s' Q v' := by rw [a, b]
@[simp] theorem W_cond (c : Operand) (x y : Code) : W P X ty N (.cond c x y) ⟨tm, h⟩ Q = req (ev true tm c) fun v => tst P X ty N x y ⟨tm, h⟩ Q v := nd rfl
@[simp high] theorem tst_t (x y : Code) : tst P X ty N x y s Q (.bool true) = W P X ty N x s Q := by simp [tst]
@[simp high] theorem tst_f (x y : Code) : tst P X ty N x y s Q (.bool false) = W P X ty N y s Q := by simp [tst]
@[simp] theorem tst_b (x y : Code) (b : Bool) : tst P X ty N x y s Q (.bool b) = ((b = true → W P X ty N x s Q) ∧ (b = false → W P X ty N y s Q)) := nd rfl
@[simp] theorem W_block (id : Nat) (c : Code) : W P X ty N (.block id c) s Q = W P X ty N c s (blockC id Q) := nd rfl
@[simp] theorem W_exit (id : Nat) : W P X ty N (.exit id) s Q = Q (.exit id) s := nd rfl
@[simp] theorem W_label (l : Nat) : W P X ty N (.label l) s Q = Q .normal s := nd rfl
@[simp] theorem W_ret : W P X ty N .ret s Q = Q .ret s := nd rfl
@[simp] theorem W_loop (c : Code) : W P X ty N (.loop c) s Q = CW P N (.loop c) s Q := nd rfl
@[simp] theorem thenC_normal (K : St → Prop) : thenC K Q .normal s = K s := nd rfl
@[simp] theorem thenC_ret (K : St → Prop) : thenC K Q .ret s = Q .ret s := nd rfl
@[simp] theorem thenC_exit (K : St → Prop) (i : Nat) : thenC K Q (.exit i) s = Q (.exit i) s := nd rfl
@[simp] theorem blockC_exit (i j : Nat) : blockC i Q (.exit j) s = if j = i then Q .normal s else Q (.exit j) s := nd rfl
/-- What a function hands back. -/
def Fin (ty : TypeId → Option TD) (rs : List ResultVar) (H : Heap) (R : Value → Heap → Prop) (e : Exit) (s : St) : Prop :=
  match e with
  | .normal => req (resC ty rs s) fun v => ∃ v' h', Ret H v s.h v' h' ∧ R v' h'
  | .ret => req (resC ty rs s) fun v => ∃ v' h', Ret H v s.h v' h' ∧ R v' h'
  | _ => False
/-- The answer v, in the heap h. -/
def Ans (H : Heap) (R : Value → Heap → Prop) (v : Value) (h : Heap) : Prop := ∃ v' h', Ret H v h v' h' ∧ R v' h'
@[congr] theorem Ans_congr {H : Heap} {R : Value → Heap → Prop} {v v' : Value} {h h' : Heap} (a : v = v') (b : h = h') : Ans H R v h = Ans H R v' h' := by rw [a, b]
@[congr] theorem Fin_congr {rs : List ResultVar} {H : Heap} {R : Value → Heap → Prop} {e e' : Exit} {s s' : St} (a : e = e') (b : s = s') : Fin ty rs H R e s = Fin ty rs H R e' s' := by rw [a, b]
def tupV (l : List Value) : Option Value :=
  match l with
  | [v] => some v
  | vs => some (.tuple vs.toArray)
@[simp] theorem tupV_nil : tupV [] = some (.tuple #[]) := rfl
@[simp] theorem tupV_one (v : Value) : tupV [v] = some v := rfl
@[simp] theorem tupV_two (a b : Value) (l : List Value) : tupV (a :: b :: l) = some (.tuple (a :: b :: l).toArray) := rfl
@[simp] theorem Fin_normal (rs : List ResultVar) (H : Heap) (R : Value → Heap → Prop) : Fin ty rs H R .normal ⟨tm, h⟩ = req (all2 (rs.map (resC1 ty ⟨tm, h⟩))) fun l => req (tupV l) fun v => Ans H R v h := by
  simp only [Fin, resC, req_bind]
  exact nd rfl
@[simp] theorem Fin_ret (rs : List ResultVar) (H : Heap) (R : Value → Heap → Prop) : Fin ty rs H R .ret ⟨tm, h⟩ = req (all2 (rs.map (resC1 ty ⟨tm, h⟩))) fun l => req (tupV l) fun v => Ans H R v h := by
  simp only [Fin, resC, req_bind]
  exact nd rfl
@[simp] theorem all2_nil {α : Type} : all2 ([] : List (Option α)) = some [] := rfl
@[simp] theorem all2_cons {α : Type} (x : Option α) (r : List (Option α)) : all2 (x :: r) = x.bind fun a => (all2 r).map fun l => a :: l := rfl
end
/-- A function, from its body's beginning, by these rules. -/
theorem fn_w (T : TyOk P ty) (X : Mode) {f : FuncId} {fn : Func} {c : Code} (hf : P.funcs[f]? = some fn) (hb : fn.body = some c) (hn : (fn.name == "runtime.NumGoroutine") = false) {rs : Array ResultVar} (hr : fn.results = rs) (hN : fn.ntmps = N) {args : List Value} {H : Heap} {R : Value → Heap → Prop} (hl : args.length ≤ N)
    (h : ∀ R' : Value → Heap → Prop, (∀ v h, R v h → R' v h) → W P X ty N c ⟨argTm 0 args, H⟩ (Fin ty rs.toList H R')) : Fn P f args H R := by
  refine fn_start T hf hb hn hr hN hl fun Q hQ => (W.sound T c _ _ (h R fun _ _ q => q)).mono fun e s q => ?_
  cases e with
  | normal =>
    obtain ⟨v, hv, v', h', h1, h2⟩ := (req_iff _ _).1 q
    exact (hQ s v v' h' hv h1 h2).1
  | ret =>
    obtain ⟨v, hv, v', h', h1, h2⟩ := (req_iff _ _).1 q
    exact (hQ s v v' h' hv h1 h2).2
  | _ => exact q.elim
@[simp] theorem argTm_nil (k : Nat) : argTm k [] = [] := rfl
@[simp] theorem argTm_cons (k : Nat) (v : Value) (r : List Value) : argTm k (v :: r) = (k, .v v) :: argTm (k + 1) r := rfl
/-- The answer is plain: nothing of the call's own is left. -/
theorem Ans.plain {H L : Heap} {R : Value → Heap → Prop} {v : Value} (hv : closedV v = true) (h : R v H) : Ans H R v (H ++ L) := ⟨v, H, Ret.plain hv, h⟩
theorem Ans.plain0 {H : Heap} {R : Value → Heap → Prop} {v : Value} (h : R v H) : Ans H R v H := ⟨v, H, Ret.refl _ _ _, h⟩
theorem Ans.refl {H h : Heap} {R : Value → Heap → Prop} {v : Value} (q : R v h) : Ans H R v h := ⟨v, h, Ret.refl _ _ _, q⟩
@[simp] theorem signed_u8 : IntKind.u8.signed = false := rfl
@[simp] theorem signed_u16 : IntKind.u16.signed = false := rfl
@[simp] theorem signed_u32 : IntKind.u32.signed = false := rfl
@[simp] theorem signed_u64 : IntKind.u64.signed = false := rfl
@[simp] theorem signed_i64 : IntKind.i64.signed = true := rfl
@[simp] theorem mask_u8 : IntKind.u8.max = 255 := rfl
@[simp] theorem mask_u16 : IntKind.u16.max = 65535 := rfl
@[simp] theorem mask_u32 : IntKind.u32.max = 4294967295 := rfl
@[simp] theorem mask_u64 : IntKind.u64.max = 18446744073709551615 := rfl
@[simp] theorem all_u8s (l : List UInt8) : (∀ x, x ∈ u8s l → one1 x = true) = True := eq_true (List.all_eq_true.1 (u8s_one1 l))
@[simp] theorem all_w32 (l : List UInt32) : (∀ x, x ∈ w32 l → one1 x = true) = True := eq_true (List.all_eq_true.1 (w32_one1 l))
theorem row_grown {h : Heap} {i u n c : Nat} {l : List UInt8} (hg : hget h i = some (grown (u8s l) u)) (hn : l.length = n) : rowOf 1 h (.slice (some ⟨i, 0, none⟩) n c) = some (u8s l) := by
  subst hn
  simp [hg]
theorem row_cells {h : Heap} {i u n c : Nat} {o : Bool} {l : List UInt8} (hg : hget h i = some (.cells (u8s l) o u)) (hn : l.length = n) : rowOf 1 h (.slice (some ⟨i, 0, none⟩) n c) = some (u8s l) := by
  subst hn
  simp [hg]
theorem hget_at {A L : Heap} {n : Nat} (k : Nat) (h : n = A.length + k) : hget (A ++ L) n = hget L k := by subst h; exact hget_append_new
theorem hget_snoc {A : Heap} {b : Blk} {n : Nat} (h : n = A.length) : hget (A ++ [some b]) n = some b := by
  subst h
  exact (hget_append_new (h := A) (g := [some b]) (k := 0)).trans rfl
/-- A loop, by what holds at its head. -/
theorem W_while (T : TyOk P ty) (X : Mode) {c : Code} {s : St} {Q : Exit → St → Prop} (I : Nat → St → Prop) (n : Nat) (s0 : St) (h0 : I n s0) (hs : subT s0.tm s.tm) (hh : s0.h = s.h)
    (round : ∀ n s, I n s → ∀ (K : St → Prop) (Q' : Exit → St → Prop), (∀ s', (∃ m s1, m < n ∧ I m s1 ∧ subT s1.tm s'.tm ∧ s1.h = s'.h ∧ s.h.length ≤ s1.h.length) → K s') → (∀ e s, Q e s → Q' e s) → W P X ty N c s (thenC K Q')) : CW P N (.loop c) s Q := by
  refine cw_loop I n s0 h0 (by obtain ⟨tm0, h0⟩ := s0; obtain ⟨tm, h⟩ := s; simp only at hh; subst hh; exact Weak.slots hs) (by rw [hh]) fun n s h => (W.sound T c s _ (round n s h _ Q (fun _ q => q) (fun _ _ q => q))).mono fun e s' q => ?_
  cases e with
  | normal =>
    obtain ⟨m, s1, h1, h2, h3, h4, h5⟩ := q
    refine ⟨m, s1, h1, h2, ?_, h5⟩
    obtain ⟨tm1, h1⟩ := s1
    obtain ⟨tm', h'⟩ := s'
    simp only at h4
    subst h4
    exact Weak.slots h3
  | _ => exact q
/-- A loop that counts, over a heap that grows: what is known of what was added. -/
theorem W_forE {α : Type} (T : TyOk P ty) (X : Mode) {c : Code} {s : St} {Q : Exit → St → Prop} (H : Heap) (tm : Nat → α → List (Nat × Ent)) (Φ : Nat → α → Heap → Prop) (n : Nat) (h0 : ∃ a L, Φ 0 a L ∧ subT (tm 0 a) s.tm ∧ s.h = H ++ L)
    (round : ∀ i a L, i ≤ n → Φ i a L → ∀ (K : St → Prop) (Q' : Exit → St → Prop), (∀ tm' L' a', i < n → Φ (i + 1) a' L' → subT (tm (i + 1) a') tm' → L.length ≤ L'.length → K ⟨tm', H ++ L'⟩) → (∀ e s, Q e s → Q' e s) → W P X ty N c ⟨tm i a, H ++ L⟩ (thenC K Q')) : CW P N (.loop c) s Q := by
  obtain ⟨a, L, h1, h2, h3⟩ := h0
  refine W_while T X (fun w s => ∃ i a L, w = n - i ∧ i ≤ n ∧ Φ i a L ∧ s = ⟨tm i a, H ++ L⟩) n ⟨tm 0 a, H ++ L⟩ ⟨0, a, L, by omega, by omega, h1, rfl⟩ h2 h3.symm ?_
  rintro w s ⟨i, a, L, rfl, hi, hΦ, rfl⟩ K Q' hK hQ
  exact round i a L hi hΦ K Q' (fun tm' L' a' h1 h2 h3 h5 => hK _ ⟨n - (i + 1), ⟨tm (i + 1) a', H ++ L'⟩, by omega, ⟨i + 1, a', L', rfl, by omega, h2, rfl⟩, h3, rfl, by simpa using h5⟩) hQ
/-- A loop that counts: what the state is at the head of each round. -/
theorem W_for (T : TyOk P ty) (X : Mode) {c : Code} {s : St} {Q : Exit → St → Prop} (F : Nat → St) (n : Nat) (h0 : subT (F 0).tm s.tm ∧ (F 0).h = s.h)
    (round : ∀ i, i ≤ n → ∀ (K : St → Prop) (Q' : Exit → St → Prop), (∀ tm' h', i < n → subT (F (i + 1)).tm tm' → (F (i + 1)).h = h' → (F i).h.length ≤ h'.length → K ⟨tm', h'⟩) → (∀ e s, Q e s → Q' e s) → W P X ty N c (F i) (thenC K Q')) : CW P N (.loop c) s Q := by
  refine W_while T X (fun w s => ∃ i, w = n - i ∧ i ≤ n ∧ s = F i) n (F 0) ⟨0, by omega, by omega, rfl⟩ h0.1 h0.2 ?_
  rintro w s ⟨i, rfl, hi, rfl⟩ K Q' hK hQ
  exact round i hi K Q' (fun tm' h' h1 h2 h3 h4 => hK _ ⟨n - (i + 1), F (i + 1), by omega, ⟨i + 1, rfl, by omega, rfl⟩, h2, h3, by rw [h3]; exact h4⟩) hQ
/-- A list in which nothing is, nil or not, told as one that has grown. -/
theorem VR.soft {ι : List Place} {a : Option Addr} {y : Value} (h : VR ι (.slice a 0 0) y) {i : Nat} {p : Place} (hp : ι[i]? = some p) : VR ι (.slice (some ⟨i, 0, none⟩) 0 OPEN) y := by
  have h0O : ¬ (0 : Nat) = OPEN := by unfold OPEN; omega
  cases a with
  | none => rw [h.closed_inv rfl]; exact .sliceN _ _ p hp
  | some a =>
    rcases h.slice_inv with ⟨i', k', q, he, hq, hno, rfl⟩ | ⟨i', k', q, c', he, ho, hq, hlc, hrm, rfl⟩ | ⟨b, _, h0, rfl, _⟩ | ⟨ho, h0, rfl, _⟩
    · exact .sliceE _ _ p _ hp
    · exact absurd ho h0O
    · exact .sliceE _ _ p _ hp
    · exact absurd ho h0O
theorem cw_soft (t u : Nat) {c : Code} {tm : List (Nat × Ent)} {h : Heap} {Q : Exit → St → Prop} {a : Option Addr} (ht : lk tm t = some (.v (.slice a 0 0)))
    (k : CW P N c ⟨(t, .v (.slice (some ⟨h.length, 0, none⟩) 0 OPEN)) :: tm, h ++ [some (grown [] u)]⟩ Q) : CW P N c ⟨tm, h⟩ Q := by
  intro ι ac w L
  obtain ⟨r1, r2⟩ := L.1.void 0 u
  have hpre : ι <+: ι ++ [⟨0, 0, 0, u⟩] := List.prefix_append _ _
  have newb : (ι ++ [⟨0, 0, 0, u⟩])[h.length]? = some ⟨0, 0, 0, u⟩ := by rw [← L.1.len]; simp
  have L' : Like (ι ++ [⟨0, 0, 0, u⟩]) ⟨(t, .v (.slice (some ⟨h.length, 0, none⟩) 0 OPEN)) :: tm, h ++ [some (grown [] u)]⟩ N ac w := by
    refine ⟨r1, L.2.1, L.2.2.1, fun t' e he => ?_⟩
    simp only [lk] at he
    split at he
    · rename_i htt; subst htt
      simp at he; subst he
      obtain ⟨y, hy, hr⟩ := L.2.2.2 t _ ht
      exact ⟨y, hy, VR.soft (VR.mono hpre hr) newb⟩
    · obtain ⟨y, hy, hr⟩ := L.2.2.2 t' e he
      exact ⟨y, hy, hr.mono hpre⟩
  exact Code.wp_mono (fun e a' w' q => Goes.trans r2 q) (k _ ac w L')
/-- Where ways come together: what is so there. -/
theorem W_join {c : Code} {s : St} {K : St → Prop} {Q : Exit → St → Prop} (I : St → Prop) (h : ∀ J : St → Prop, (∀ s, I s → J s) → W P X ty N c s (thenC J Q)) (k : ∀ s, I s → K s) : W P X ty N c s (thenC K Q) :=
  (h I fun _ q => q).mono' fun e s q => by cases e <;> first | exact k _ q | exact q
end Go.Sx
