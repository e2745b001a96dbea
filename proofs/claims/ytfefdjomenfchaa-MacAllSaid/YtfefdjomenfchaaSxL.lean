/-
  Sx, part L: rows of operations, code, calls. Own words; no condition.
-/
import Derived.Test.YtfefdjomenfchaaSxK
import Derived.Tactics
import Derived.Scope
import Derived.Deep.LoopGhost
namespace Go.Sx
open Go

/-- A function that has a body. -/
def FnOk (P : Program) (f : FuncId) : Prop := ∃ fn, P.funcs[f]? = some fn ∧ fn.body.isNone = false ∧ (fn.name == "runtime.NumGoroutine") = false
/-- Called with args in a heap h, the function returns, and R holds of what it returns, and of the heap then. -/
def Fn (P : Program) (f : FuncId) (args : List Value) (h : Heap) (R : Value → Heap → Prop) : Prop :=
  FnOk P f ∧ ∀ ι w args', RelH ι h w → VRs ι args args' → Calls P f args'.toArray w fun e w' => ∃ κ v y h', R v h' ∧ e = .returned y ∧ VR κ v y ∧ RelH κ h' w' ∧ Grow ι h w κ h' w'
theorem Fn.mono {P : Program} {f : FuncId} {args : List Value} {h : Heap} {R R' : Value → Heap → Prop} (hf : Fn P f args h R) (hr : ∀ v h', R v h' → R' v h') : Fn P f args h R' :=
  ⟨hf.1, fun ι w args' H r => Calls.mono (hf.2 ι w args' H r) fun _ _ ⟨κ, v, y, h', q, rest⟩ => ⟨κ, v, y, h', hr v h' q, rest⟩⟩
/-- A call, and what is done with its answer. -/
def CallK (P : Program) (f : FuncId) (args : List Value) (h : Heap) (dst : Option Tmp) (tm : List (Nat × Ent)) (K : St → Prop) : Prop :=
  Fn P f args h fun v h' => K ⟨put dst (.v v) tm, h'⟩
theorem CallK.of {P : Program} {f : FuncId} {args : List Value} {h : Heap} {dst : Option Tmp} {tm : List (Nat × Ent)} {K : St → Prop} {R : Value → Heap → Prop} (hf : Fn P f args h R) (hk : ∀ v h', R v h' → K ⟨put dst (.v v) tm, h'⟩) : CallK P f args h dst tm K :=
  hf.mono hk
variable (P : Program) (ty : TypeId → Option TD) (N : Nat)
noncomputable section
/-- An operation. -/
def exec (o : Oper) (K : St → Prop) (s : St) : Prop :=
  match callee s.tm o.op with
  | some (f, args) => CallK P f args s.h o.dst s.tm K
  | none => match semA ty o.op s.tm s.h with
    | some (v, h') => K ⟨put o.dst (.v v) s.tm, h'⟩
    | none => match semP ty true o.op s.tm s.h with
      | some v => K ⟨put o.dst (.v v) s.tm, s.h⟩
      | none => False
def dstOk (o : Oper) : Bool :=
  match o.dst with
  | some t => decide (t < N)
  | none => true
/-- An operation, if its guard is so. -/
def guarded (γ : Bool) (o : Oper) (K : St → Prop) (s : St) : Prop :=
  match isP o.op with
  | true => match semP ty γ o.op s.tm s.h with
    | some v => K ⟨put o.dst (.g γ v) s.tm, s.h⟩
    | none => if γ = true then False else K ⟨put o.dst (.v undef) s.tm, s.h⟩
  | false => match γ with
    | true => exec P ty o K s
    | false => K ⟨put o.dst (.v undef) s.tm, s.h⟩
def stepC (all : List Oper) (o : Oper) (K : St → Prop) (s : St) : Prop :=
  match dstOk N o with
  | true => match o.guard with
    | none => exec P ty o K s
    | some g => match guardC all s.tm g with
      | some γ => guarded P ty γ o K s
      | none => False
  | false => False
/-- Operations, one behind the other. -/
def cops (all : List Oper) : List Oper → (St → Prop) → St → Prop
  | [], K, s => K s
  | o :: os, K, s => stepC P ty N all o (cops all os K) s
end
variable {P : Program} {ty : TypeId → Option TD} {N : Nat}

/-- What an act and a world are, after a state. -/
def Like (ι : List Place) (s : St) (N : Nat) (a : Act) (w : World) : Prop := RelH ι s.h w ∧ RelT ι s.tm N a
/-- From a state to one of which K holds. -/
def Goes (ι : List Place) (h : Heap) (w : World) (N : Nat) (K : St → Prop) (a' : Act) (w' : World) : Prop :=
  ∃ κ s', K s' ∧ Like κ s' N a' w' ∧ Grow ι h w κ s'.h w'
theorem dstOk_lt {o : Oper} (h : dstOk N o = true) : ∀ t, o.dst = some t → t < N := by
  intro t ht
  unfold dstOk at h
  rw [ht] at h
  simpa using h
theorem callFunc_run {f : FuncId} (hf : FnOk P f) (args : Array Value) (w : World) : (callFunc f args).run P w = .ok (.enter f args) w := by
  obtain ⟨fn, h1, h2, h3⟩ := hf
  simp only [callFunc, Sem.run_bind, run_program, Result.andThen_ok, h1]
  rw [if_neg (by rw [h3]; decide), if_neg (by rw [h2]; decide)]
  rfl
theorem callee_run {ι : List Place} {tm : List (Nat × Ent)} {a : Act} (R : RelT ι tm N a) (o : Oper) {f : FuncId} {args : List Value} (hc : callee tm o.op = some (f, args)) (hf : FnOk P f) (w : World) :
    ∃ args' : List Value, VRs ι args args' ∧ (execOp a.eval o).run P w = .ok (.enter f args'.toArray) w := by
  obtain ⟨dst, op, type, pos, after, guard⟩ := o
  cases op <;> simp only [callee, reduceCtorEq] at hc
  case call c =>
    obtain ⟨cl, cargs, ats⟩ := c
    simp only at hc
    split at hc
    · rename_i fo
      simp only [Option.bind_eq_some_iff] at hc
      obtain ⟨fv, hfv, l, hl, hc⟩ := hc
      split at hc
      · rename_i fn first captured
        split at hc
        · rename_i g
          simp at hc
          obtain ⟨rfl, rfl⟩ := hc
          obtain ⟨ys, vs, he, r1, r2⟩ := (R.ev rfl hfv).func_inv
          have r := R.evs (γ := true) rfl hl
          refine ⟨ys.toList ++ cargs.toList.map a.eval ++ vs.toList, by simpa [List.append_assoc] using (r1.append r).append r2, ?_⟩
          have ea : ys ++ cargs.map a.eval ++ vs = (ys.toList ++ cargs.toList.map a.eval ++ vs.toList).toArray := by apply Array.ext'; simp
          simp only [execOp, resolve, Deferred.ofValue, he, Sem.run_bind, Sem.run_pure, Result.andThen_ok, invoke, ea, callFunc_run hf]
        · simp at hc
      · simp at hc
    · simp at hc
theorem exec_sound (T : TyOk P ty) {ι : List Place} {s : St} {a : Act} {w : World} (L : Like ι s N a w) {o : Oper} (hd : dstOk N o = true) {K : St → Prop} (h : exec P ty o K s) (Q : Exit → Act → World → Prop) :
    o.wp P a w (Goes ι s.h w N K) Q := by
  have hlt := dstOk_lt hd
  unfold exec at h
  unfold Oper.wp
  split at h
  · rename_i f args hc
    obtain ⟨hf, hcalls⟩ := h
    obtain ⟨args', r, hrun⟩ := callee_run L.2 o hc hf w
    rw [hrun]
    refine Calls.mono (hcalls ι w args' L.1 r) ?_
    rintro e w' ⟨κ, v, y, h', hK, rfl, hv, hR, hG⟩
    exact ⟨κ, _, hK, ⟨hR, (L.2.mono hG.pre).put hlt hv⟩, hG⟩
  · split at h
    · rename_i v h' hs
      obtain ⟨nx, y, κ, w', hrun, hnx, hv, hR, hG⟩ := semA_sound T L.2 L.1 o hs
      rw [hrun]
      rcases hnx with rfl | ⟨rfl, rfl⟩
      · exact ⟨κ, _, h, ⟨hR, (L.2.mono hG.pre).put hlt hv⟩, hG⟩
      · exact ⟨κ, _, h, ⟨hR, (L.2.mono hG.pre).put hlt hv⟩, hG⟩
    · split at h
      · rename_i v hs
        obtain ⟨y, hrun, hv⟩ := semP_sound T rfl L.2 L.1 o hs
        rw [hrun]
        exact ⟨ι, _, h, ⟨L.1, L.2.put hlt hv⟩, .refl _ _ _⟩
      · exact h.elim
theorem guardC_sound {ι : List Place} {tm : List (Nat × Ent)} {a : Act} (R : RelT ι tm N a) {all : List Oper} {ops : Array Oper} (hall : ops.toList = all) {g : Nat × Bool} {γ : Bool} (h : guardC all tm g = some γ) {o : Oper} (hg : o.guard = some g) :
    Region.wanted o (yielded ops a.tmps) = γ := by
  simp only [guardC, Option.bind_eq_some_iff] at h
  obtain ⟨t, ⟨oj, hoj, ht⟩, e, he, h⟩ := h
  obtain ⟨y, hy, hr⟩ := R.2.2 t e he
  obtain ⟨j, want⟩ := g
  have hoj' : ops[j]? = some oj := by rw [← Array.getElem?_toList, hall]; exact hoj
  unfold Region.wanted
  rw [hg]
  simp only
  unfold yielded
  rw [hoj']
  simp only [Option.bind_some, ht, hy]
  cases e with
  | v x =>
    simp only at h
    split at h
    · rename_i b
      simp at h; subst h
      obtain rfl := VR.bool_inv hr
      simp
    · simp at h
  | g β x =>
    simp only at h
    split at h
    · rename_i b
      simp at h; subst h
      cases β with
      | true =>
        simp only [ER, if_true] at hr
        obtain rfl := VR.bool_inv hr
        simp
      | false =>
        simp only [ER, Bool.false_eq_true, if_false] at hr
        subst hr
        simp [undef]
    · simp at h
theorem step_sound (T : TyOk P ty) {ι : List Place} {s : St} {a : Act} {w : World} (L : Like ι s N a w) {all : List Oper} {ops : Array Oper} (hall : ops.toList = all) {o : Oper} {K : St → Prop} (h : stepC P ty N all o K s) (Q : Exit → Act → World → Prop) :
    if Region.wanted o (yielded ops a.tmps) then o.wp P a w (Goes ι s.h w N K) Q else Goes ι s.h w N K (a.put o.dst undef) w := by
  unfold stepC at h
  split at h
  · rename_i hd
    have hlt := dstOk_lt hd
    have skip : K ⟨put o.dst (.v undef) s.tm, s.h⟩ → Goes ι s.h w N K (a.put o.dst undef) w := fun hk =>
      ⟨ι, _, hk, ⟨L.1, L.2.put hlt undef_VR⟩, .refl _ _ _⟩
    split at h
    · rename_i hg
      rw [if_pos (by simp [Region.wanted, hg])]
      exact exec_sound T L hd h Q
    · rename_i g hg
      split at h
      · rename_i γ hγ
        have hw := guardC_sound L.2 hall hγ hg
        rw [hw]
        unfold guarded at h
        split at h
        · split at h
          · rename_i v hs
            cases γ with
            | true =>
              rw [if_pos rfl]
              obtain ⟨y, hrun, hv⟩ := semP_sound T rfl L.2 L.1 o hs
              unfold Oper.wp
              rw [hrun]
              exact ⟨ι, _, h, ⟨L.1, L.2.put hlt (by simpa [ER] using hv)⟩, .refl _ _ _⟩
            | false =>
              rw [if_neg (by decide)]
              exact ⟨ι, _, h, ⟨L.1, L.2.put hlt (by simp [ER])⟩, .refl _ _ _⟩
          · cases γ with
            | true => simp at h
            | false => rw [if_neg (by decide)]; exact skip (by simpa using h)
        · split at h
          · rw [if_pos rfl]; exact exec_sound T L hd h Q
          · rw [if_neg (by decide)]; exact skip h
      · exact h.elim
  · exact h.elim
theorem Goes.trans {ι : List Place} {h : Heap} {w : World} {κ : List Place} {h' : Heap} {w' : World} (g : Grow ι h w κ h' w') {K : St → Prop} {a'' : Act} {w'' : World} (q : Goes κ h' w' N K a'' w'') : Goes ι h w N K a'' w'' :=
  let ⟨μ, s, k, l, g'⟩ := q; ⟨μ, s, k, l, g.trans g'⟩
theorem cops_sound (T : TyOk P ty) {all : List Oper} {ops : Array Oper} (hall : ops.toList = all) {Q : Exit → Act → World → Prop} : ∀ (l : List Oper) {K : St → Prop} {s : St} {ι : List Place} {a : Act} {w : World}, Like ι s N a w → cops P ty N all l K s →
    (∀ a' w', Goes ι s.h w N K a' w' → Q .normal a' w') → wpList P ops Q l a w
  | [], K, s, ι, a, w, L, h, hQ => hQ a w ⟨ι, s, h, L, .refl _ _ _⟩
  | o :: os, K, s, ι, a, w, L, h, hQ => by
    refine wpList_step fun K' hK' => ?_
    have hs := step_sound T L hall h Q
    have next : ∀ a' w', Goes ι s.h w N (cops P ty N all os K) a' w' → K' a' w' := by
      rintro a' w' ⟨κ, s', hk, L', g⟩
      exact hK' _ _ (cops_sound T hall os L' hk fun a'' w'' q => hQ a'' w'' (Goes.trans g q))
    split
    · rename_i hw; rw [if_pos hw] at hs; exact Oper.wp_mono next hs
    · rename_i hw; rw [if_neg hw] at hs; exact next _ _ hs
/-- Code: from a state, by an exit, to one of which Q holds. -/
def CW (P : Program) (N : Nat) (c : Code) (s : St) (Q : Exit → St → Prop) : Prop :=
  ∀ ι a w, Like ι s N a w → c.wp P (fun e => Goes ι s.h w N (Q e)) a w
theorem CW.mono {c : Code} {s : St} {Q Q' : Exit → St → Prop} (h : CW P N c s Q) (hq : ∀ e s, Q e s → Q' e s) : CW P N c s Q' :=
  fun ι a w L => Code.wp_mono (fun e _ _ ⟨κ, s', q, rest⟩ => ⟨κ, s', hq e s' q, rest⟩) (h ι a w L)
theorem cw_region (T : TyOk P ty) {id : Nat} {ops : Array Oper} {s : St} {Q : Exit → St → Prop} (h : cops P ty N ops.toList ops.toList (Q .normal) s) : CW P N (.region id ops false) s Q :=
  fun _ _ _ L => wp_region_list (cops_sound T rfl _ L h fun _ _ q => q)
theorem cw_skip {s : St} {Q : Exit → St → Prop} (h : Q .normal s) : CW P N .skip s Q := fun ι _ _ L => wp_skip ⟨ι, s, h, L, .refl _ _ _⟩
theorem cw_ret {s : St} {Q : Exit → St → Prop} (h : Q .ret s) : CW P N .ret s Q := fun ι _ _ L => wp_ret ⟨ι, s, h, L, .refl _ _ _⟩
theorem cw_exit {id : Nat} {s : St} {Q : Exit → St → Prop} (h : Q (.exit id) s) : CW P N (.exit id) s Q := fun ι _ _ L => wp_exit ⟨ι, s, h, L, .refl _ _ _⟩
/-- What follows, if nothing is left. -/
def thenC (K : St → Prop) (Q : Exit → St → Prop) : Exit → St → Prop
  | .normal, s => K s
  | e, s => Q e s
theorem cw_seq {a b : Code} {s : St} {Q : Exit → St → Prop} (h : ∀ K : St → Prop, (∀ s, CW P N b s Q → K s) → CW P N a s (thenC K Q)) : CW P N (.seq a b) s Q := by
  intro ι ac w L
  refine wp_seq (Code.wp_mono ?_ (h (fun s => CW P N b s Q) (fun _ h => h) ι ac w L))
  rintro e a' w' ⟨κ, s', q, L', g⟩
  cases e with
  | normal => exact Code.wp_mono (fun e _ _ q' => Goes.trans g q') (q κ a' w' L')
  | _ => exact ⟨κ, s', q, L', g⟩
theorem cw_cond {c : Operand} {x y : Code} {s : St} {Q : Exit → St → Prop} {β : Bool} (hc : ev true s.tm c = some (.bool β)) (hx : β = true → CW P N x s Q) (hy : β = false → CW P N y s Q) : CW P N (.cond c x y) s Q := by
  intro ι a w L
  have he := (L.2.ev rfl hc).bool_inv
  exact wp_cond_split he (fun h => hx h ι a w L) (fun h => hy h ι a w L)
/-- Out of a block. -/
def blockC (id : Nat) (Q : Exit → St → Prop) : Exit → St → Prop
  | .exit id', s => if id' = id then Q .normal s else Q (.exit id') s
  | e, s => Q e s
theorem cw_block {id : Nat} {c : Code} {s : St} {Q : Exit → St → Prop} (h : CW P N c s (blockC id Q)) : CW P N (.block id c) s Q := by
  intro ι a w L
  refine wp_block (Code.wp_mono ?_ (h ι a w L))
  rintro e a' w' ⟨κ, s', q, L', g⟩
  cases e with
  | exit id' =>
    simp only [blockC] at q
    simp only [Exit.inBlock]
    split
    · rename_i he; rw [if_pos he] at q; exact ⟨κ, s', q, L', g⟩
    · rename_i he; rw [if_neg he] at q; exact ⟨κ, s', q, L', g⟩
  | _ => exact ⟨κ, s', q, L', g⟩
theorem cw_scope {c : Code} {s : St} {Q : Exit → St → Prop} (h : CW P N c s fun e s => match e with | .goto _ => False | e => Q e s) : CW P N (.scope c) s Q := by
  intro ι a w L
  refine wp_scope_straight (Code.wp_mono ?_ (h ι a w L))
  rintro e a' w' ⟨κ, s', q, L', g⟩
  cases e with
  | goto l => exact q.elim
  | _ => exact ⟨κ, s', q, L', g⟩
theorem cw_label {l : Nat} {s : St} {Q : Exit → St → Prop} (h : Q .normal s) : CW P N (.label l) s Q := fun ι _ _ L => wp_label ⟨ι, s, h, L, .refl _ _ _⟩
/-- Numbers of blocks below a bound. -/
inductive Scoped (n : Nat) : Value → Prop
  | same (v : Value) : closed1 v = true → Scoped n v
  | ptr (i k : Nat) : i < n → Scoped n (.pointer (some ⟨i, k, none⟩))
  | slice (i k l c : Nat) : i < n → Scoped n (.slice (some ⟨i, k, none⟩) l c)
  | iface (t : TypeId) (x : Value) : Scoped n x → Scoped n (.iface t x)
  | agg (xs : Array Value) : (∀ x ∈ xs.toList, Scoped n x) → Scoped n (.agg xs)
  | tuple (xs : Array Value) : (∀ x ∈ xs.toList, Scoped n x) → Scoped n (.tuple xs)
  | func (fn : Go.Fn) (xs us : Array Value) : (∀ x ∈ xs.toList, Scoped n x) → (∀ x ∈ us.toList, Scoped n x) → Scoped n (.func fn xs us)
  | map (i : Nat) : i < n → Scoped n (.map (some i))
theorem VR.cut {ι : List Place} {n : Nat} {x y : Value} (r : VR ι x y) (s : Scoped n x) : VR (ι.take n) x y := by
  induction r with
  | same v h => exact .same v h
  | ptr i k p hp =>
    cases s with
    | same _ h => simp [closed1] at h
    | ptr _ _ h => exact .ptr i k p (by rw [List.getElem?_take_of_lt h]; exact hp)
  | slice i k l c p hp hc =>
    cases s with
    | same _ h => simp [closed1] at h
    | slice _ _ _ _ h => exact .slice i k l c p (by rw [List.getElem?_take_of_lt h]; exact hp) hc
  | sliceO i k l c p hp h1 h2 =>
    cases s with
    | same _ h => simp [closed1] at h
    | slice _ _ _ _ h => exact .sliceO i k l c p (by rw [List.getElem?_take_of_lt h]; exact hp) h1 h2
  | sliceE i k p b hp =>
    cases s with
    | same _ h => simp [closed1] at h
    | slice _ _ _ _ h => exact .sliceE i k p b (by rw [List.getElem?_take_of_lt h]; exact hp)
  | sliceN i k p hp =>
    cases s with
    | same _ h => simp [closed1] at h
    | slice _ _ _ _ h => exact .sliceN i k p (by rw [List.getElem?_take_of_lt h]; exact hp)
  | sliceZ i k p b hp =>
    cases s with
    | same _ h => simp [closed1] at h
    | slice _ _ _ _ h => exact .sliceZ i k p b (by rw [List.getElem?_take_of_lt h]; exact hp)
  | iface t x y _ ih =>
    cases s with
    | same _ h => simp [closed1] at h
    | iface _ _ h => exact .iface t x y (ih h)
  | agg xs ys hs _ ih =>
    cases s with
    | same _ h => simp [closed1] at h
    | agg _ h => exact .agg xs ys hs fun k x y hx hy => ih k x y hx hy (h x (Array.mem_toList_iff.2 (Array.mem_of_getElem? hx)))
  | tuple xs ys hs _ ih =>
    cases s with
    | same _ h => simp [closed1] at h
    | tuple _ h => exact .tuple xs ys hs fun k x y hx hy => ih k x y hx hy (h x (Array.mem_toList_iff.2 (Array.mem_of_getElem? hx)))
  | func fn xs ys us vs h1 _ h2 _ i1 i2 =>
    cases s with
    | same _ h => simp [closed1] at h
    | func _ _ _ a b => exact .func fn xs ys us vs h1 (fun k x y hx hy => i1 k x y hx hy (a x (Array.mem_toList_iff.2 (Array.mem_of_getElem? hx)))) h2 (fun k x y hx hy => i2 k x y hx hy (b x (Array.mem_toList_iff.2 (Array.mem_of_getElem? hx))))
  | map i p hp =>
    cases s with
    | same _ h => simp [closed1] at h
    | map _ h => exact .map i p (by rw [List.getElem?_take_of_lt h]; exact hp)
theorem VR.within {ι : List Place} {x y : Value} (r : VR ι x y) : Scoped ι.length x := by
  have hg : ∀ {i : Nat} {p : Place}, ι[i]? = some p → i < ι.length := fun h => (List.getElem?_eq_some_iff.1 h).1
  induction r with
  | same v h => exact .same v h
  | ptr i k p hp => exact .ptr i k (hg hp)
  | slice i k l c p hp _ => exact .slice i k l c (hg hp)
  | sliceO i k l c p hp _ _ => exact .slice i k l _ (hg hp)
  | sliceE i k p b hp => exact .slice i k 0 _ (hg hp)
  | sliceN i k p hp => exact .slice i k 0 _ (hg hp)
  | sliceZ i k p b hp => exact .slice i k 0 _ (hg hp)
  | iface t x y _ ih => exact .iface t x ih
  | agg xs ys hs _ ih =>
    refine .agg xs fun x hx => ?_
    obtain ⟨k, hk, he⟩ := List.getElem_of_mem hx
    have hk' : k < xs.size := by simpa using hk
    exact ih k x (ys[k]'(by omega)) (by rw [Array.getElem?_eq_getElem hk']; rw [← he]; simp) (by simp)
  | tuple xs ys hs _ ih =>
    refine .tuple xs fun x hx => ?_
    obtain ⟨k, hk, he⟩ := List.getElem_of_mem hx
    have hk' : k < xs.size := by simpa using hk
    exact ih k x (ys[k]'(by omega)) (by rw [Array.getElem?_eq_getElem hk']; rw [← he]; simp) (by simp)
  | func fn xs ys us vs h1 _ h2 _ i1 i2 =>
    refine .func fn xs us (fun x hx => ?_) fun x hx => ?_
    · obtain ⟨k, hk, he⟩ := List.getElem_of_mem hx
      have hk' : k < xs.size := by simpa using hk
      exact i1 k x (ys[k]'(by omega)) (by rw [Array.getElem?_eq_getElem hk']; rw [← he]; simp) (by simp)
    · obtain ⟨k, hk, he⟩ := List.getElem_of_mem hx
      have hk' : k < us.size := by simpa using hk
      exact i2 k x (vs[k]'(by omega)) (by rw [Array.getElem?_eq_getElem hk']; rw [← he]; simp) (by simp)
  | map i p hp => exact .map i (hg hp)
def ScopedE (n : Nat) : Ent → Prop
  | .v x => Scoped n x
  | .g _ x => Scoped n x
def ScopedB (n : Nat) : Blk → Prop
  | .cells cs _ _ => ∀ x ∈ cs, Scoped n x
  | .map es _ => ∀ e ∈ es, Scoped n e.key ∧ Scoped n e.val
  | .void _ => True
/-- A state of which less is said: fewer slots, fewer blocks. -/
structure Weak (s0 s : St) : Prop where
  len : s0.h.length ≤ s.h.length
  tm : ∀ t e, lk s0.tm t = some e → lk s.tm t = some e ∧ (s0.h.length = s.h.length ∨ ScopedE s0.h.length e)
  heap : ∀ i b, hget s0.h i = some b → hget s.h i = some b ∧ (s0.h.length = s.h.length ∨ ScopedB s0.h.length b)
theorem EsR.cut {ι : List Place} {n : Nat} : ∀ {xs ys : List MapEntry}, EsR ι xs ys → (∀ e ∈ xs, Scoped n e.key ∧ Scoped n e.val) → EsR (ι.take n) xs ys
  | [], [], _, _ => trivial
  | x :: xs, y :: ys, ⟨a, b, c, d⟩, h => ⟨a.cut (h x (by simp)).1, b.cut (h x (by simp)).2, c, EsR.cut d fun e he => h e (by simp [he])⟩
  | [], _ :: _, h, _ => h.elim
  | _ :: _, [], h, _ => h.elim
theorem Weak.sound {s0 s : St} (k : Weak s0 s) {κ : List Place} {a : Act} {w : World} (L : Like κ s N a w) : Like (κ.take s0.h.length) s0 N a w ∧ ∀ ι h w0, Grow ι h w0 κ s.h w → h.length ≤ s0.h.length → ι.length = h.length → Grow ι h w0 (κ.take s0.h.length) s0.h w := by
  have hlen := L.1.len
  have hcut : ∀ {x y : Value}, (s0.h.length = s.h.length ∨ Scoped s0.h.length x) → VR κ x y → VR (κ.take s0.h.length) x y := by
    intro x y hs hr
    rcases hs with hs | hs
    · rw [List.take_of_length_le (by omega)]; exact hr
    · exact hr.cut hs
  have hget' : ∀ i, i < s0.h.length → ∀ p, κ[i]? = some p → (κ.take s0.h.length)[i]? = some p := fun i hi p hp => by rw [List.getElem?_take_of_lt hi]; exact hp
  have hback : ∀ i p, (κ.take s0.h.length)[i]? = some p → κ[i]? = some p := fun i p hp => by
    have := (List.getElem?_eq_some_iff.1 hp).1
    rw [List.length_take] at this
    rw [List.getElem?_take_of_lt (by omega)] at hp; exact hp
  refine ⟨⟨⟨by rw [List.length_take]; have := k.len; omega, ?_, ?_⟩, L.2.1, L.2.2.1, ?_⟩, ?_⟩
  · intro i b hb
    obtain ⟨hb', hs⟩ := k.heap i b hb
    obtain ⟨p, hp, r⟩ := L.1.blk i b hb'
    refine ⟨p, hget' i (hget_lt hb) p hp, ?_⟩
    cases b with
    | void u => exact r
    | cells cs o u =>
      obtain ⟨h1, h2, h3⟩ := r
      refine ⟨fun j x hx => ?_, h2, h3⟩
      obtain ⟨y, hy, hr⟩ := h1 j x hx
      refine ⟨y, hy, hcut ?_ hr⟩
      rcases hs with hs | hs
      · exact .inl hs
      · exact .inr (hs x (List.mem_of_getElem? hx))
    | map es c =>
      obtain ⟨es', h1, h2⟩ := r
      refine ⟨es', h1, ?_⟩
      rcases hs with hs | hs
      · rw [List.take_of_length_le (by omega)]; exact h2
      · exact h2.cut hs
  · intro i j b c p q h1 h2 h3 hsd h4 h5 h6
    exact L.1.apart i j b c p q (k.heap i b h1).1 h2 (k.heap j c h3).1 hsd h4 (hback i p h5) (hback j q h6)
  · intro t e ht
    obtain ⟨ht', hs⟩ := k.tm t e ht
    obtain ⟨y, hy, hr⟩ := L.2.2.2 t e ht'
    refine ⟨y, hy, ?_⟩
    cases e with
    | v x => exact hcut hs hr
    | g β x =>
      simp only [ER] at *
      by_cases hb : β = true
      · rw [if_pos hb] at *; exact hcut hs hr
      · rw [if_neg hb] at *; exact hr
  · intro ι h w0 g hle hιl
    refine ⟨?_, g.os, g.tape, g.output, g.size, g.keep, fun i c p h1 h2 h3 => g.own i c p (k.heap i c h1).1 h2 (hback i p h3)⟩
    obtain ⟨t, ht⟩ := g.pre
    refine ⟨t.take (s0.h.length - ι.length), ?_⟩
    rw [← ht, List.take_append, List.take_of_length_le (l := ι) (by omega)]
theorem Goes.weak {ι : List Place} {h : Heap} {w0 w : World} {K : St → Prop} {a : Act} {s0 s : St} {κ : List Place} (hs : K s0) (k : Weak s0 s) (hl : h.length ≤ s0.h.length) (hιl : ι.length = h.length) (L : Like κ s N a w) (g : Grow ι h w0 κ s.h w) : Goes ι h w0 N K a w :=
  let ⟨L', g'⟩ := k.sound L; ⟨_, s0, hs, L', g' ι h w0 g hl hιl⟩
theorem cw_weak {c : Code} {s0 s : St} {Q : Exit → St → Prop} (k : Weak s0 s) (hl : s0.h.length = s.h.length) (h : CW P N c s0 Q) : CW P N c s Q := by
  intro ι a w L
  obtain ⟨L', _⟩ := k.sound L
  rw [List.take_of_length_le (by rw [L.1.len]; omega)] at L'
  refine Code.wp_mono ?_ (h ι a w L')
  rintro e a' w' ⟨κ, s', q, l, g⟩
  refine ⟨κ, s', q, l, g.pre, g.os, g.tape, g.output, g.size, fun b hb hno => g.keep b hb fun i c p h1 h2 h3 => hno i c p (k.heap i c h1).1 h2 h3, fun i c p h1 h2 h3 => ?_⟩
  rcases g.own i c p h1 h2 h3 with ⟨j, d, q, a1, a2, a3, a4⟩ | hle
  · exact .inl ⟨j, d, q, (k.heap j d a1).1, a2, a3, a4⟩
  · exact .inr hle
/-- A loop: what holds at each round's head, with a number that each round lowers. -/
theorem cw_loop {c : Code} {s : St} {Q : Exit → St → Prop} (I : Nat → St → Prop) (n : Nat) (s0 : St) (h0 : I n s0) (k0 : Weak s0 s) (hl0 : s0.h.length = s.h.length)
    (round : ∀ n s, I n s → CW P N c s (thenC (fun s' => ∃ m s1, m < n ∧ I m s1 ∧ Weak s1 s' ∧ s.h.length ≤ s1.h.length) Q)) : CW P N (.loop c) s Q := by
  refine cw_weak k0 hl0 ?_
  intro ι a w L
  refine wp_loop_ghost (fun n a' w' => ∃ κ s', I n s' ∧ Like κ s' N a' w' ∧ Grow ι s0.h w κ s'.h w') n ⟨ι, s0, h0, L, .refl _ _ _⟩ ?_
  rintro n a' w' ⟨κ, s', hI, L', g⟩
  refine Code.wp_mono ?_ (round n s' hI κ a' w' L')
  rintro e a'' w'' ⟨μ, s'', q, L'', g'⟩
  cases e with
  | normal =>
    obtain ⟨m, s1, hm, hI1, hw, hlen⟩ := q
    obtain ⟨L1, g1⟩ := hw.sound L''
    exact ⟨m, hm, _, s1, hI1, L1, g.trans (g1 _ _ _ g' hlen L'.1.len)⟩
  | _ => exact ⟨μ, s'', q, L'', g.trans g'⟩
end Go.Sx
