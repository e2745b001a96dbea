/-
  Walks by Sx; no condition beyond those that stand in each statement.
-/
import Derived.Test.YtfjdbhgnnpmceaaSxb1
import Derived.Laws.IdiomCopy
section
/-
  Sx, part G: soundness: building, and the theorem for all operations that leave the heap as it is. Own words; no condition.
-/
namespace Go.Sx
open Go
variable {P : Program} {ty : TypeId → Option TD}

theorem foldl_setL (off : Nat) : ∀ (us : List Value) (j : Nat) (cs : Array Value),
    ((us.zipIdx j).foldl (fun cs (c : Value × Nat) => cs.setIfInBounds (off + c.2) c.1) cs).toList = setL cs.toList (off + j) us := by
  intro us
  induction us with
  | nil => intro j cs; simp [setL]
  | cons u us ih =>
    intro j cs
    simp only [List.zipIdx_cons, List.foldl_cons, setL]
    rw [ih (j + 1)]
    simp [Nat.add_assoc]
theorem fill_step (off : Nat) (v : Value) (cs : Array Value) : (v.cells.zipIdx.foldl (fun cs (c, j) => cs.setIfInBounds (off + j) c) cs).toList = setL cs.toList off v.cells.toList := by
  rw [← Array.foldl_toList]
  have := foldl_setL off v.cells.toList 0 cs
  simp only [Nat.add_zero] at this
  rw [← this, Array.toList_zipIdx]
theorem setL_length : ∀ (us cs : List Value) (k : Nat), (setL cs k us).length = cs.length
  | [], _, _ => rfl
  | u :: us, cs, k => by simp [setL, setL_length us]
/-- Parts, pairwise: of the same places. -/
def VRp (ι : List Place) : List (Nat × Value) → List (Nat × Value) → Prop
  | [], [] => True
  | x :: xs, y :: ys => x.1 = y.1 ∧ VR ι x.2 y.2 ∧ VRp ι xs ys
  | _, _ => False
theorem fill_sound {ι : List Place} {place place' : Nat → Option (Nat × Nat)} (hp : ∀ i q, place i = some q → place' i = some q) : ∀ {ps ps' : List (Nat × Value)}, VRp ι ps ps' → ∀ {cs l : List Value} {cs' : Array Value}, VRs ι cs cs'.toList → fillC place cs ps = some l →
    ∃ l' : Array Value, Instr.fill place' cs' ps' = some l' ∧ VRs ι l l'.toList
  | [], [], _, cs, l, cs', r, h => by simp [fillC] at h; subst h; exact ⟨cs', rfl, r⟩
  | (i, v) :: ps, (i', v') :: ps', ⟨he, hv, hr⟩, cs, l, cs', r, h => by
    simp only [fillC, Option.bind_eq_some_iff, Option.ite_none_right_eq_some] at h
    obtain ⟨q, hq, ⟨h1, h2⟩, h3⟩ := h
    simp at he hv; subst he
    have hcells := hv.cells
    have hlen := hcells.length
    have hsz : v'.cells.size = q.2 := by rw [← h1, hlen]; simp
    have hcs : cs.length = cs'.size := by rw [r.length]; simp
    obtain ⟨l', hl', rl⟩ := fill_sound hp hr (cs' := v'.cells.zipIdx.foldl (fun cs (c, j) => cs.setIfInBounds (q.1 + j) c) cs') (by rw [fill_step]; exact VRs.setL hcells q.1 r) h3
    refine ⟨l', ?_, rl⟩
    obtain ⟨off, size⟩ := q
    simp only at hsz h2 hl'
    simp only [Instr.fill, hp i _ hq]
    rw [if_neg (by simp [hsz]; omega)]
    exact hl'
  | [], _ :: _, h, _, _, _, _, _ => h.elim
  | _ :: _, [], h, _, _, _, _, _ => h.elim
theorem run_places (T : TyOk P ty) (w : World) : ∀ (fs : List Field), fieldsKnown ty fs = true → ∃ ps : List (Nat × Nat), (fs.mapM (m := Sem) fun f => do pure (f.offset, ← Go.sizeOf f.type)).run P w = .ok ps w ∧
    ∀ (i : Nat) (q : Nat × Nat), ((fs[i]?).bind fun (f : Field) => (ty f.type).map fun d => (f.offset, d.size)) = some q → ps[i]? = some q
  | [], _ => ⟨[], by simp, by simp⟩
  | f :: fs, h => by
    simp only [fieldsKnown, Bool.and_eq_true, Option.isSome_iff_exists] at h
    obtain ⟨⟨d, hd⟩, h⟩ := h
    obtain ⟨ps, h1, h2⟩ := run_places T w fs h
    refine ⟨(f.offset, d.size) :: ps, ?_, ?_⟩
    · simp only [List.mapM_cons, Sem.run_bind, T.sizeOf hd, Result.andThen_ok, Sem.run_pure]
      have e : Sem.run P (List.mapM (fun f => do pure (f.offset, ← Go.sizeOf f.type)) fs) w = .ok ps w := h1
      rw [e]; rfl
    · intro i q hq
      cases i with
      | zero => simp [hd] at hq; simp [hq]
      | succ i => simpa using h2 i q (by simpa using hq)
theorem mapM_list (f : Field → Sem (Nat × Nat)) (fs : Array Field) (w : World) {ps : List (Nat × Nat)} (h : (fs.toList.mapM f).run P w = .ok ps w) : (fs.mapM f).run P w = .ok ps.toArray w := by
  rw [Array.mapM_eq_mapM_toList]
  simp [h]
theorem zero_VRs (T : TyOk P ty) {ι : List Place} {t : TypeId} {d : TD} (ht : ty t = some d) : VRs ι d.zero d.zero := by
  obtain ⟨_, _, _, _, _, _, _, _, hc⟩ := T.inf t d ht
  exact VRs.closed hc
theorem run_build (T : TyOk P ty) {ι : List Place} {w : World} {t : TypeId} {ps ps' : List (Nat × Value)} {v : Value} (h : buildC ty t ps = some v) (r : VRp ι ps ps') :
    ∃ z, (Instr.build t ps'.toArray).run P w = .ok z w ∧ VR ι v z := by
  simp only [buildC, Option.bind_eq_some_iff] at h
  obtain ⟨d, hd, h⟩ := h
  have hu := T.underlying hd w
  obtain ⟨z, hz, hzc⟩ := T.zeroValue hd w
  have hzr : VRs ι d.zero z.cells.toList := by rw [hzc]; exact zero_VRs T hd
  split at h
  · rename_i fs hk
    rw [hk] at hu
    simp only [Option.ite_none_right_eq_some, Option.map_eq_some_iff] at h
    obtain ⟨hf, l, hl, rfl⟩ := h
    obtain ⟨qs, h1, h2⟩ := run_places T w fs.toList hf
    obtain ⟨l', h3, h4⟩ := fill_sound (place' := fun i => qs.toArray[i]?) (fun i q hq => by simpa using h2 i q (by simpa [fplace] using hq)) r hzr hl
    refine ⟨.agg l', ?_, VR.agg' (by simpa using h4)⟩
    have hm := mapM_list (P := P) _ fs w h1
    simp only [Instr.build, Sem.run_bind, hz, Result.andThen_ok, hu, hm, h3, Sem.run_pure]
  · rename_i n e hk
    rw [hk] at hu
    simp only [Option.bind_eq_some_iff, Option.map_eq_some_iff] at h
    obtain ⟨d', hd', l, hl, rfl⟩ := h
    obtain ⟨l', h3, h4⟩ := fill_sound (place' := fun i => some (i * d'.size, d'.size)) (fun i q hq => hq) r hzr hl
    refine ⟨.agg l', ?_, VR.agg' (by simpa using h4)⟩
    simp only [Instr.build, Sem.run_bind, hz, Result.andThen_ok, hu, T.sizeOf hd', h3, Sem.run_pure]
  · simp at h
theorem RelT.evps {ι : List Place} {tm : List (Nat × Ent)} {N : Nat} {a : Act} (r : RelT ι tm N a) {γ : Bool} (hγ : γ = true) : ∀ {xs : List (Nat × Operand)} {vs : List (Nat × Value)}, Sx.evps γ tm xs = some vs → VRp ι vs (xs.map fun p => (p.1, a.eval p.2))
  | [], vs, h => by simp [Sx.evps, all2] at h; subst h; trivial
  | x :: xs, vs, h => by
    simp only [Sx.evps, List.map_cons, all2, Option.bind_eq_some_iff, Option.map_eq_some_iff] at h
    obtain ⟨v, ⟨u, hu, rfl⟩, l, hl, rfl⟩ := h
    exact ⟨rfl, r.ev hγ hu, RelT.evps r hγ (xs := xs) hl⟩
theorem RelT.evo {ι : List Place} {tm : List (Nat × Ent)} {N : Nat} {a : Act} (r : RelT ι tm N a) {γ : Bool} (hγ : γ = true) {x : Option Operand} {v : Option Value} (h : Sx.evo γ tm x = some v) : VRo ι v (x.map a.eval) := by
  cases x with
  | none => simp [Sx.evo] at h; subst h; trivial
  | some x =>
    simp only [Sx.evo, Option.map_eq_some_iff] at h
    obtain ⟨u, hu, rfl⟩ := h
    exact r.ev hγ hu
theorem pick_sound {ι : List Place} {β : Bool} {x y x' y' : Value} (hx : β = true → VR ι x x') (hy : β = false → VR ι y y') : VR ι (pickC β x y) (if β = true then x' else y') := by
  have key : VR ι (if β = true then x else y) (if β = true then x' else y') := by
    cases β
    · simpa using hy rfl
    · simpa using hx rfl
  unfold pickC
  split
  · split
    · cases β
      · simpa using hy rfl
      · simpa using hx rfl
    · exact key
  · exact key
theorem lenC_sound {ι : List Place} {x v : Value} (h : lenC x = some v) {x' : Value} (hx : VR ι x x') : lenC x' = some v := by
  cases x <;> simp [lenC] at h
  · obtain rfl := hx.string_inv; simpa [lenC] using h
  · rename_i a n c
    cases a with
    | none => obtain rfl := hx.closed_inv rfl; simpa [lenC] using h
    | some a =>
      rcases hx.slice_inv with ⟨_, _, _, _, _, _, rfl⟩ | ⟨_, _, _, _, _, _, _, _, _, rfl⟩ | ⟨_, _, rfl, rfl, _⟩ | ⟨_, rfl, rfl, _⟩ <;> simpa [lenC] using h
theorem fold_min {ι : List Place} (w : World) : ∀ {l l' : List Value} {x x' v : Value}, VR ι x x' → VRs ι l l' → foldC minC x l = some v → ∃ z, (l'.foldlM Builtin.min2 x').run P w = .ok z w ∧ VR ι v z
  | [], [], x, x', v, hx, _, h => by simp [foldC] at h; subst h; exact ⟨x', by simp, hx⟩
  | y :: l, y' :: l', x, x', v, hx, ⟨hy, hl⟩, h => by
    simp only [foldC, Option.bind_eq_some_iff] at h
    obtain ⟨z, hz, h⟩ := h
    cases x <;> simp [minC] at hz
    rename_i k n
    cases y <;> simp at hz
    rename_i k' m
    obtain rfl := hx.int_inv
    obtain rfl := hy.int_inv
    obtain ⟨u, hu, hr⟩ := fold_min w (x' := z) (by subst hz; exact .same _ rfl) hl h
    refine ⟨u, ?_, hr⟩
    subst hz
    simp [Builtin.min2, hu]
  | [], _ :: _, _, _, _, _, h, _ => h.elim
  | _ :: _, [], _, _, _, _, h, _ => h.elim
theorem fold_max {ι : List Place} (w : World) : ∀ {l l' : List Value} {x x' v : Value}, VR ι x x' → VRs ι l l' → foldC maxC x l = some v → ∃ z, (l'.foldlM Builtin.max2 x').run P w = .ok z w ∧ VR ι v z
  | [], [], x, x', v, hx, _, h => by simp [foldC] at h; subst h; exact ⟨x', by simp, hx⟩
  | y :: l, y' :: l', x, x', v, hx, ⟨hy, hl⟩, h => by
    simp only [foldC, Option.bind_eq_some_iff] at h
    obtain ⟨z, hz, h⟩ := h
    cases x <;> simp [maxC] at hz
    rename_i k n
    cases y <;> simp at hz
    rename_i k' m
    obtain rfl := hx.int_inv
    obtain rfl := hy.int_inv
    obtain ⟨u, hu, hr⟩ := fold_max w (x' := z) (by subst hz; exact .same _ rfl) hl h
    refine ⟨u, ?_, hr⟩
    subst hz
    simp [Builtin.max2, hu]
  | [], _ :: _, _, _, _, _, h, _ => h.elim
  | _ :: _, [], _, _, _, _, h, _ => h.elim
/-- The operations that leave the heap as it is. -/
theorem semP_sound (T : TyOk P ty) {ι : List Place} {tm : List (Nat × Ent)} {N : Nat} {a : Act} {h : Heap} {w : World} {γ : Bool} (hγ : γ = true) (R : RelT ι tm N a) (H : RelH ι h w) (o : Oper) {v : Value} (hs : semP ty γ o.op tm h = some v) :
    ∃ y, (execOp a.eval o).run P w = .ok (.value y) w ∧ VR ι v y := by
  obtain ⟨dst, op, type, pos, after, guard⟩ := o
  cases op <;> simp only [semP, reduceCtorEq] at hs
  case move x => exact ⟨_, by simp [execOp], R.ev hγ hs⟩
  case assign x => exact ⟨_, by simp [execOp], R.ev hγ hs⟩
  case pick c x y =>
    simp only [Option.bind_eq_some_iff] at hs
    obtain ⟨cv, hc, hs⟩ := hs
    split at hs
    · rename_i β
      simp only [Option.bind_eq_some_iff, Option.map_eq_some_iff] at hs
      obtain ⟨xv, hx, yv, hy, rfl⟩ := hs
      have hcb := (R.ev hγ hc).bool_inv
      refine ⟨_, ?_, pick_sound (x' := a.eval x) (y' := a.eval y) (fun hb => R.ev (by simp [hγ, hb]) hx) (fun hb => R.ev (by simp [hγ, hb]) hy)⟩
      simp [execOp, hcb, asBool]
    · simp at hs
  case build t ps =>
    simp only [Option.bind_eq_some_iff] at hs
    obtain ⟨l, hl, hs⟩ := hs
    obtain ⟨z, hz, hr⟩ := run_build (P := P) T (w := w) hs (R.evps hγ hl)
    refine ⟨z, ?_, hr⟩
    have e : (ps.map fun (i, x) => (i, a.eval x)) = (List.map (fun p : Nat × Operand => (p.fst, a.eval p.snd)) ps.toList).toArray := by
      apply Array.ext'; simp
    simp only [execOp, e, Sem.run_bind, hz, Result.andThen_ok, Sem.run_pure]
  case load t x =>
    simp only [Option.bind_eq_some_iff] at hs
    obtain ⟨d, hd, xv, hx, hs⟩ := hs
    obtain ⟨y, hy, hr⟩ := run_loadVar T H hd (R.ev hγ hx) hs
    exact ⟨y, by simp [execOp, hy], hr⟩
  case nilCheck x =>
    simp only [Option.bind_eq_some_iff] at hs
    obtain ⟨xv, hx, hs⟩ := hs
    have hv := R.ev hγ hx
    split at hs
    · simp at hs; subst hs
      obtain ⟨i, k, p, _, _, he⟩ := hv.ptr_inv'
      rw [he] at hv
      exact ⟨_, by simp [execOp, he], hv⟩
    · simp at hs; subst hs
      obtain ⟨z, he, _⟩ := hv.iface_inv
      rw [he] at hv
      exact ⟨_, by simp [execOp, he], hv⟩
    · simp at hs; subst hs
      obtain ⟨ys, vs, he, _, _⟩ := hv.func_inv
      rw [he] at hv
      exact ⟨_, by simp [execOp, he], hv⟩
    · simp at hs
  case binOp op t x y yt =>
    simp only [Option.bind_eq_some_iff] at hs
    obtain ⟨d, hd, xv, hx, yv, hy, hs⟩ := hs
    obtain ⟨z, hz, hr⟩ := run_bin T hd hs (R.ev hγ hx) (R.ev hγ hy) x y w
    refine ⟨z, ?_, hr⟩
    simp only [execOp, Sem.run_bind] at hz ⊢
    rw [hz]; rfl
  case unOp op t x =>
    simp only [Option.bind_eq_some_iff] at hs
    obtain ⟨xv, hx, hs⟩ := hs
    obtain ⟨z, hz, hr⟩ := run_un (P := P) hs (R.ev hγ hx) w
    exact ⟨z, by simp [execOp, hz], hr⟩
  case convert src t x =>
    simp only [Option.bind_eq_some_iff] at hs
    obtain ⟨xv, hx, hs⟩ := hs
    obtain ⟨z, hz, hr⟩ := run_conv T H hs (R.ev hγ hx)
    exact ⟨z, by simp [execOp, hz], hr⟩
  case sliceToArrayPointer t x =>
    simp only [Option.bind_eq_some_iff] at hs
    obtain ⟨d, hd, xv, hx, hs⟩ := hs
    have hu := T.underlying hd w
    split at hs
    · rename_i n e hk
      rw [hk] at hu
      split at hs
      · rename_i b len c
        simp only [Option.ite_none_right_eq_some, Option.some.injEq] at hs
        obtain ⟨⟨hn, h0⟩, rfl⟩ := hs
        have hv := R.ev hγ hx
        cases b with
        | none =>
          have he := hv.closed_inv rfl
          refine ⟨.pointer none, ?_, .same _ rfl⟩
          simp [execOp, he, Instr.arrayAt, hu, Nat.not_lt.2 hn]
        | some b =>
          rcases hv.slice_inv with ⟨i, k, p, rfl, hp, _, he⟩ | ⟨i, k, p, c', rfl, _, hp, _, _, he⟩ | ⟨b', _, rfl, he, _⟩ | ⟨_, rfl, he, _⟩
          · refine ⟨_, ?_, .ptr i k p hp⟩
            simp [execOp, he, Instr.arrayAt, hu, Nat.not_lt.2 hn]
          · refine ⟨_, ?_, .ptr i k p hp⟩
            simp [execOp, he, Instr.arrayAt, hu, Nat.not_lt.2 hn]
          · omega
          · omega
      · simp at hs
    · simp at hs
  case makeInterface t x =>
    simp only [Option.bind_eq_some_iff] at hs
    obtain ⟨d, hd, xv, hx, hs⟩ := hs
    have hu := T.underlying hd w
    split at hs
    · simp at hs
    · rename_i hk
      simp at hs; subst hs
      refine ⟨_, ?_, .iface t _ _ (R.ev hγ hx)⟩
      simp only [execOp, Instr.makeInterface, Sem.run_bind, hu, Result.andThen_ok]
      cases hd' : d.desc <;> first | exact absurd hd' (hk _) | simp
  case makeFunc fn first captured =>
    simp only [Option.bind_eq_some_iff, Option.map_eq_some_iff] at hs
    obtain ⟨l, hl, m, hm, rfl⟩ := hs
    have r1 := R.evs hγ hl
    have r2 := R.evs hγ hm
    refine ⟨.func fn (first.map a.eval) (captured.map a.eval), by simp [execOp, Instr.makeFunc], ?_⟩
    exact .func fn _ _ _ _ (by simpa using r1.length) (fun k x y hx hy => r1.get k x y (by simpa using hx) (by simpa using hy)) (by simpa using r2.length) (fun k x y hx hy => r2.get k x y (by simpa using hx) (by simpa using hy))
  case slice t x lo hi mx =>
    simp only [Option.bind_eq_some_iff] at hs
    obtain ⟨xv, hx, l, hl, hh, hhh, m, hm, hs⟩ := hs
    obtain ⟨z, hz, hr⟩ := run_slice T H hs (R.ev hγ hx) (R.evo hγ hl) (R.evo hγ hhh) (R.evo hγ hm)
    exact ⟨z, by simp [execOp, hz], hr⟩
  case fieldAddr t x f =>
    simp only [Option.bind_eq_some_iff] at hs
    obtain ⟨xv, hx, hs⟩ := hs
    obtain ⟨z, hz, hr⟩ := run_fieldAddr T hs (R.ev hγ hx) w
    exact ⟨z, by simp [execOp, hz], hr⟩
  case field t x f =>
    simp only [Option.bind_eq_some_iff] at hs
    obtain ⟨xv, hx, hs⟩ := hs
    obtain ⟨z, hz, hr⟩ := run_field T hs (R.ev hγ hx) w
    exact ⟨z, by simp [execOp, hz], hr⟩
  case indexAddr t x i =>
    simp only [Option.bind_eq_some_iff] at hs
    obtain ⟨xv, hx, iv, hi, hs⟩ := hs
    obtain ⟨z, hz, hr⟩ := run_indexAddr T hs (R.ev hγ hx) (R.ev hγ hi) w
    exact ⟨z, by simp [execOp, hz], hr⟩
  case index t x i =>
    simp only [Option.bind_eq_some_iff] at hs
    obtain ⟨xv, hx, iv, hi, hs⟩ := hs
    obtain ⟨z, hz, hr⟩ := run_index T hs (R.ev hγ hx) (R.ev hγ hi) w
    exact ⟨z, by simp [execOp, hz], hr⟩
  case extract x i =>
    simp only [Option.bind_eq_some_iff] at hs
    obtain ⟨xv, hx, hs⟩ := hs
    split at hs
    · obtain ⟨ys, he, r⟩ := (R.ev hγ hx).tuple_inv
      obtain ⟨y, hy, hr⟩ := r.get' hs
      refine ⟨y, ?_, hr⟩
      have hy' : ys[i]? = some y := by simpa using hy
      simp [execOp, he, Instr.extract, hy']
    · simp at hs
  case call c =>
    obtain ⟨cl, args, ats⟩ := c
    simp only at hs
    split at hs
    · rename_i b
      simp only [Option.bind_eq_some_iff] at hs
      obtain ⟨l, hl, hs⟩ := hs
      have r := R.evs hγ hl
      have ra : (args.map a.eval).toList = args.toList.map a.eval := by simp
      cases b <;> simp only [builtP, reduceCtorEq] at hs
      case len =>
        split at hs
        · rename_i x r'
          cases hargs : args.toList.map a.eval with
          | nil => rw [hargs] at r; exact r.elim
          | cons y ys =>
            rw [hargs] at r
            have hx := r.1
            have h0 : (args.map a.eval)[0]? = some y := by
              rw [← Array.getElem?_toList, ra, hargs]; rfl
            simp only [Option.bind_eq_some_iff] at hs
            obtain ⟨t, ht, d, hd, hs⟩ := hs
            have hu := T.underlying hd w
            split at hs
            · rename_i e hk
              rw [hk] at hu
              split at hs
              · rename_i b n c
                simp at hs; subst hs
                have : ∃ b' c', y = .slice b' n c' := by
                  cases b with
                  | none => exact ⟨_, _, hx.closed_inv rfl⟩
                  | some b => rcases hx.slice_inv with ⟨_, _, _, _, _, _, rfl⟩ | ⟨_, _, _, _, _, _, _, _, _, rfl⟩ | ⟨_, _, rfl, rfl, _⟩ | ⟨_, rfl, rfl, _⟩ <;> exact ⟨_, _, rfl⟩
                obtain ⟨b', c', rfl⟩ := this
                refine ⟨.int .i64 n, ?_, .same _ rfl⟩
                simp [execOp, resolve, invoke, builtin, Builtin.len_, ht, h0, hu, goInt]
              · simp at hs
            · rename_i hk
              rw [hk] at hu
              split at hs
              · simp at hs; subst hs
                obtain rfl := hx.string_inv
                refine ⟨_, ?_, .same _ rfl⟩
                simp [execOp, resolve, invoke, builtin, Builtin.len_, ht, h0, hu, goInt]
              · simp at hs
            · rename_i n e hk
              rw [hk] at hu
              simp at hs; subst hs
              refine ⟨_, ?_, .same _ rfl⟩
              simp [execOp, resolve, invoke, builtin, Builtin.len_, ht, h0, hu, goInt]
            · simp at hs
        · simp at hs
      case min =>
        split at hs
        · rename_i x r'
          cases hargs : args.toList.map a.eval with
          | nil => rw [hargs] at r; exact r.elim
          | cons y ys =>
            rw [hargs] at r
            obtain ⟨z, hz, hr⟩ := fold_min (P := P) w r.1 r.2 hs
            refine ⟨z, ?_, hr⟩
            have e : (args.map a.eval).toList = y :: ys := by rw [ra, hargs]
            simp only [execOp, resolve, invoke, builtin, Builtin.min_, e, Sem.run_bind, Sem.run_pure, Result.andThen_ok, hz]
        · simp at hs
      case max =>
        split at hs
        · rename_i x r'
          cases hargs : args.toList.map a.eval with
          | nil => rw [hargs] at r; exact r.elim
          | cons y ys =>
            rw [hargs] at r
            obtain ⟨z, hz, hr⟩ := fold_max (P := P) w r.1 r.2 hs
            refine ⟨z, ?_, hr⟩
            have e : (args.map a.eval).toList = y :: ys := by rw [ra, hargs]
            simp only [execOp, resolve, invoke, builtin, Builtin.max_, e, Sem.run_bind, Sem.run_pure, Result.andThen_ok, hz]
        · simp at hs
    · simp at hs
end Go.Sx
end
section
/-
  Sx, part H: the canonical heap under new blocks, stores, draws, and blocks that are let go. Own words; no condition.
-/
namespace Go.Sx
open Go
variable {P : Program} {ty : TypeId → Option TD}

theorem hget_append {h g : Heap} {i : Nat} (hi : i < h.length) : hget (h ++ g) i = hget h i := by
  unfold hget; rw [List.getElem?_append_left hi]
theorem hget_append_new {h g : Heap} {k : Nat} : hget (h ++ g) (h.length + k) = hget g k := by
  unfold hget; rw [List.getElem?_append_right (by omega)]; simp
theorem hget_lt {h : Heap} {i : Nat} {b : Blk} (hb : hget h i = some b) : i < h.length := by
  unfold hget at hb
  cases hi : h[i]? with
  | none => rw [hi] at hb; simp at hb
  | some x => exact (List.getElem?_eq_some_iff.1 hi).1
theorem hget_set {h : Heap} {i j : Nat} {b : Option Blk} : hget (h.set i b) j = if i = j ∧ i < h.length then b else hget h j := by
  unfold hget
  rw [List.getElem?_set]
  by_cases hij : i = j
  · subst hij
    by_cases hl : i < h.length
    · simp [hl]
    · simp [hl]
  · simp [hij]
theorem RelH.lt {ι : List Place} {h : Heap} {w : World} (R : RelH ι h w) {i : Nat} {b : Blk} (hb : hget h i = some b) : i < ι.length := by
  rw [R.len]; exact hget_lt hb
/-- A block's reading hangs on the world's block alone. -/
theorem BlkR.world {ι : List Place} {w w' : World} {p : Place} {b : Blk} (r : BlkR ι w p b) (hb : solid b = true → w'.heap[p.block]? = w.heap[p.block]?) (hs : w.heap.size ≤ w'.heap.size) : BlkR ι w' p b := by
  cases b with
  | void u => exact r
  | cells cs o u =>
    replace hb := hb rfl
    have hc : ∀ k, w'.cell? ⟨p.block, k, none⟩ = w.cell? ⟨p.block, k, none⟩ := fun k => by simp [World.cell?, hb]
    have hf : ∀ k, w'.frozen? ⟨p.block, k, none⟩ = w.frozen? ⟨p.block, k, none⟩ := fun k => by simp [World.frozen?, hb]
    obtain ⟨h1, h2, h3⟩ := r
    refine ⟨fun k x hx => by rw [hc]; exact h1 k x hx, Nat.lt_of_lt_of_le h2 hs, fun ho => ?_⟩
    obtain ⟨a, b, c⟩ := h3 ho
    exact ⟨a, b, fun k hk => by rw [hc, hf]; exact c k hk⟩
  | map es c =>
    obtain ⟨es', h1, h2⟩ := r
    exact ⟨es', by rw [hb rfl]; exact h1, h2⟩
theorem BlkR.mono {ι κ : List Place} (h : ι <+: κ) {w : World} {p : Place} {b : Blk} (r : BlkR ι w p b) : BlkR κ w p b := by
  cases b with
  | cells cs o u =>
    obtain ⟨h1, h2, h3⟩ := r
    exact ⟨fun k x hx => let ⟨y, a, b⟩ := h1 k x hx; ⟨y, a, b.mono h⟩, h2, h3⟩
  | map es c =>
    obtain ⟨es', h1, h2⟩ := r
    exact ⟨es', h1, h2.mono h⟩
  | void u => exact r
theorem owns_solid {b : Blk} (h : owns b = true) : solid b = true := by cases b <;> first | rfl | cases h
theorem BlkR.lt {ι : List Place} {w : World} {p : Place} {b : Blk} (r : BlkR ι w p b) (hs : solid b = true) : p.block < w.heap.size := by
  cases b with
  | cells cs o u => exact r.2.1
  | map es c =>
    obtain ⟨es', h1, _⟩ := r
    exact (Array.getElem?_eq_some_iff.1 h1).1
  | void u => cases hs
/-- The world with all blocks as they were. -/
theorem RelH.world {ι : List Place} {h : Heap} {w w' : World} (R : RelH ι h w) (hb : ∀ b, b < w.heap.size → w'.heap[b]? = w.heap[b]?) (hs : w.heap.size ≤ w'.heap.size) : RelH ι h w' :=
  ⟨R.len, fun i b hi => let ⟨p, hp, r⟩ := R.blk i b hi; ⟨p, hp, r.world (fun q => hb _ (r.lt q)) hs⟩, R.apart⟩
theorem Grow.world {ι : List Place} {h : Heap} {w w' : World} (hb : ∀ b, b < w.heap.size → w'.heap[b]? = w.heap[b]?) (hs : w.heap.size ≤ w'.heap.size) (ho : w'.os = w.os) (ht : w'.tape = w.tape) (hu : w'.output = w.output) : Grow ι h w ι h w' :=
  ⟨List.prefix_refl _, ho, ht, hu, hs, fun b hlt _ => hb b hlt, fun i c p h1 h2 h3 => .inl ⟨i, c, p, h1, h2, h3, rfl⟩⟩
/-- A draw. -/
theorem RelH.drew {ι : List Place} {h : Heap} {w : World} (R : RelH ι h w) (n : Nat) : RelH ι h { w with drawn := n } := R.world (fun _ _ => rfl) (Nat.le_refl _)
theorem Grow.drew {ι : List Place} {h : Heap} {w : World} (n : Nat) : Grow ι h w ι h { w with drawn := n } := .world (fun _ _ => rfl) (Nat.le_refl _) rfl rfl rfl
theorem heap_alloc_lt {w : World} {o : Obj} {b : Nat} (h : b < w.heap.size) : (w.alloc o).heap[b]? = w.heap[b]? := by
  show (w.heap.push o)[b]? = _
  rw [Array.getElem?_push, if_neg (by omega)]
/-- A new block. -/
theorem RelH.new {ι : List Place} {h : Heap} {w : World} (R : RelH ι h w) {c : Array Value} {e : TypeId} {cs : List Value} (hr : VRs ι cs (c.toList.take cs.length)) {room : Nat} (h1 : cs.length ≤ room) (h2 : room ≤ c.size) (unit : Nat) :
    RelH (ι ++ [⟨w.heap.size, 0, room, unit⟩]) (h ++ [some (.cells cs true unit)]) (w.alloc (.cells c e)) ∧
      Grow ι h w (ι ++ [⟨w.heap.size, 0, room, unit⟩]) (h ++ [some (.cells cs true unit)]) (w.alloc (.cells c e)) := by
  have hpre : ι <+: ι ++ [⟨w.heap.size, 0, room, unit⟩] := List.prefix_append _ _
  have hsz : (w.alloc (.cells c e)).heap.size = w.heap.size + 1 := by simp
  have hcell : ∀ k, (w.alloc (.cells c e)).cell? ⟨w.heap.size, k, none⟩ = c[k]? := fun k => by simp
  have hfz : ∀ k, (w.alloc (.cells c e)).frozen? ⟨w.heap.size, k, none⟩ = false := fun k => by simp
  have old : ∀ i b, hget h i = some b → ∃ p, (ι ++ [⟨w.heap.size, 0, room, unit⟩])[i]? = some p ∧ BlkR (ι ++ [⟨w.heap.size, 0, room, unit⟩]) (w.alloc (.cells c e)) p b ∧ (solid b = true → p.block < w.heap.size) ∧ ι[i]? = some p := by
    intro i b hi
    obtain ⟨p, hp, r⟩ := R.blk i b hi
    refine ⟨p, ?_, (r.world (fun q => heap_alloc_lt (r.lt q)) (by simp)).mono hpre, r.lt, hp⟩
    rw [List.getElem?_append_left (R.lt hi)]; exact hp
  have newb : (ι ++ [⟨w.heap.size, 0, room, unit⟩])[h.length]? = some ⟨w.heap.size, 0, room, unit⟩ := by
    rw [← R.len]; simp
  have which : ∀ i b, hget (h ++ [some (.cells cs true unit)]) i = some b → hget h i = some b ∧ i < h.length ∨ i = h.length ∧ b = .cells cs true unit := by
    intro i b hi
    have hlt := hget_lt hi
    by_cases hl : i < h.length
    · left; rw [hget_append hl] at hi; exact ⟨hi, hl⟩
    · right
      have : i = h.length := by simp at hlt; omega
      subst this
      have e := hget_append_new (h := h) (g := [some (Blk.cells cs true unit)]) (k := 0)
      simp only [Nat.add_zero] at e
      rw [e] at hi
      simp [hget] at hi
      exact ⟨rfl, hi.symm⟩
  refine ⟨⟨by simp [R.len], ?_, ?_⟩, hpre, rfl, rfl, rfl, by simp, fun b hb _ => heap_alloc_lt hb, ?_⟩
  · intro i b hi
    rcases which i b hi with ⟨ho, _⟩ | ⟨rfl, rfl⟩
    · obtain ⟨p, a, b, _⟩ := old i b ho; exact ⟨p, a, b⟩
    · refine ⟨_, newb, ?_, by simp, fun _ => ⟨h1, rfl, fun k hk => ?_⟩⟩
      · intro k x hx
        obtain ⟨y, hy, r⟩ := hr.get' hx
        refine ⟨y, ?_, r.mono hpre⟩
        simp only [Nat.zero_add, hcell]
        have hk : k < cs.length := (List.getElem?_eq_some_iff.1 hx).1
        rw [List.getElem?_take_of_lt hk] at hy
        simpa using hy
      · have hk' : k < room := hk
        simp only [Nat.zero_add, hcell, hfz]
        exact ⟨⟨c[k]'(by omega), by simp⟩, trivial⟩
  · intro i j b d p q hb ho hd hsd hij hp hq
    rcases which i b hb with ⟨h1', _⟩ | ⟨rfl, rfl⟩
    · obtain ⟨p', a1, _, a3, a4⟩ := old i b h1'
      rw [hp] at a1; simp at a1; subst a1
      rcases which j d hd with ⟨h2', _⟩ | ⟨rfl, rfl⟩
      · obtain ⟨q', b1, _, b3, b4⟩ := old j d h2'
        rw [hq] at b1; simp at b1; subst b1
        exact R.apart i j b d p q h1' ho h2' hsd hij a4 b4
      · rw [newb] at hq; simp at hq; subst hq
        exact Nat.ne_of_lt (a3 (owns_solid ho))
    · rw [newb] at hp; simp at hp; subst hp
      rcases which j d hd with ⟨h2', _⟩ | ⟨rfl, rfl⟩
      · obtain ⟨q', b1, _, b3, b4⟩ := old j d h2'
        rw [hq] at b1; simp at b1; subst b1
        exact (Nat.ne_of_lt (b3 hsd)).symm
      · exact absurd rfl hij
  · intro i b p hb ho hp
    rcases which i b hb with ⟨h1', _⟩ | ⟨rfl, rfl⟩
    · obtain ⟨p', a1, _, a3, a4⟩ := old i b h1'
      rw [hp] at a1; simp at a1; subst a1
      exact .inl ⟨i, b, p, h1', ho, a4, rfl⟩
    · rw [newb] at hp; simp at hp; subst hp
      exact .inr (Nat.le_refl _)
theorem RelH.forget {ι : List Place} {h : Heap} {w : World} (R : RelH ι h w) (i : Nat) : RelH ι (h.set i none) w := by
  have key : ∀ j b, hget (h.set i none) j = some b → hget h j = some b := by
    intro j b hj
    rw [hget_set] at hj
    split at hj
    · simp at hj
    · exact hj
  exact ⟨by simp [R.len], fun j b hj => R.blk j b (key j b hj), fun a c b d p q h1 h2 h3 => R.apart a c b d p q (key a b h1) h2 (key c d h3)⟩
theorem Grow.forget {ι : List Place} {h : Heap} {w : World} (i : Nat) : Grow ι h w ι (h.set i none) w := by
  refine ⟨List.prefix_refl _, rfl, rfl, rfl, Nat.le_refl _, fun _ _ _ => rfl, fun j c p h1 h2 h3 => .inl ⟨j, c, p, ?_, h2, h3, rfl⟩⟩
  rw [hget_set] at h1
  split at h1
  · simp at h1
  · exact h1
theorem World.heap_setCells {b : Nat} : ∀ (vs : List Value) (o : Nat) (w : World) (k : Nat), k ≠ b → (w.setCells b o vs).heap[k]? = w.heap[k]?
  | [], _, _, _, _ => rfl
  | v :: r, o, w, k, h => by
    rw [World.setCells, World.heap_setCells r (o + 1) _ k h]
    simp only [World.setCell, Array.getElem?_modify]
    rw [if_neg (by simpa using fun e => h e.symm)]
theorem World.size_setCells {b : Nat} : ∀ (vs : List Value) (o : Nat) (w : World), (w.setCells b o vs).heap.size = w.heap.size
  | [], _, _ => rfl
  | v :: r, o, w => by rw [World.setCells, World.size_setCells r]; simp [World.setCell]
theorem World.os_setCells {b : Nat} : ∀ (vs : List Value) (o : Nat) (w : World), (w.setCells b o vs).os = w.os ∧ (w.setCells b o vs).tape = w.tape ∧ (w.setCells b o vs).output = w.output
  | [], _, _ => ⟨rfl, rfl, rfl⟩
  | v :: r, o, w => by rw [World.setCells]; exact World.os_setCells r (o + 1) _
theorem setL_get_in : ∀ (us cs : List Value) (k j : Nat), j < us.length → k + us.length ≤ cs.length → (setL cs k us)[k + j]? = us[j]?
  | [], _, _, _, h, _ => by simp at h
  | u :: us, cs, k, j, h, hl => by
    cases j with
    | zero =>
      simp only [setL, Nat.add_zero]
      have : (setL (cs.set k u) (k + 1) us)[k]? = (cs.set k u)[k]? := by
        have key : ∀ (us cs : List Value) (m j : Nat), j < m → (setL cs m us)[j]? = cs[j]? := by
          intro us
          induction us with
          | nil => intro cs m j _; rfl
          | cons v us ih => intro cs m j hj; rw [setL, ih _ _ _ (by omega), List.getElem?_set_ne (by omega)]
        exact key us _ _ _ (by omega)
      rw [this]
      simp at hl
      simp [show k < cs.length by omega]
    | succ j =>
      have := setL_get_in us (cs.set k u) (k + 1) j (by simpa using h) (by simp at hl ⊢; omega)
      rw [show k + (j + 1) = k + 1 + j by omega, setL, this]; simp
theorem setL_get_out : ∀ (us cs : List Value) (k j : Nat), j < k ∨ k + us.length ≤ j → (setL cs k us)[j]? = cs[j]?
  | [], _, _, _, _ => rfl
  | u :: us, cs, k, j, h => by
    rw [setL, setL_get_out us _ _ _ (by simp at h; omega), List.getElem?_set_ne (by simp at h; omega)]
/-- Stores, in a row, into an own block. -/
theorem RelH.store' {ι : List Place} {h : Heap} {w : World} (R : RelH ι h w) {i k : Nat} {cs cs' : List Value} {unit : Nat} (hg : hget h i = some (.cells cs true unit)) {p : Place} (hp : ι[i]? = some p) {us vs : List Value} (hr : VRs ι us vs) (hk : k + us.length ≤ p.room) (hl' : cs'.length ≤ p.room)
    (hget' : ∀ j x, cs'[j]? = some x → (∃ m, j = k + m ∧ us[m]? = some x) ∨ ((j < k ∨ k + us.length ≤ j) ∧ cs[j]? = some x)) :
    RelH ι (h.set i (some (.cells cs' true unit))) (w.setCells p.block (p.off + k) vs) ∧ Grow ι h w ι (h.set i (some (.cells cs' true unit))) (w.setCells p.block (p.off + k) vs) ∧
      (∀ j, j < vs.length → (w.cell? ⟨p.block, p.off + k + j, none⟩).isSome = true) ∧ (∀ j, j < vs.length → w.frozen? ⟨p.block, p.off + k + j, none⟩ = false) := by
  obtain ⟨p', hp', hb⟩ := R.blk i _ hg
  rw [hp] at hp'; simp at hp'; subst hp'
  obtain ⟨hc, hlt, hown⟩ := hb
  obtain ⟨hroom, hunit, hcells⟩ := hown rfl
  have hlen := hr.length
  have c1 : ∀ j, j < vs.length → (w.cell? ⟨p.block, p.off + k + j, none⟩).isSome = true := fun j hj => by
    obtain ⟨⟨y, hy⟩, _⟩ := hcells (k + j) (by omega)
    rw [show p.off + k + j = p.off + (k + j) by omega, hy]; rfl
  have c2 : ∀ j, j < vs.length → w.frozen? ⟨p.block, p.off + k + j, none⟩ = false := fun j hj => by
    have := (hcells (k + j) (by omega)).2
    rw [show p.off + k + j = p.off + (k + j) by omega]; exact this
  have hin := fun j hj => World.cell?_setCells_in p.block vs (p.off + k) w c1 j hj
  have hout : ∀ q : Addr, (q.off < p.off + k ∨ p.off + k + vs.length ≤ q.off) → (w.setCells p.block (p.off + k) vs).cell? q = w.cell? q := fun q hq => World.cell?_setCells_out p.block vs _ w q (fun _ _ => hq)
  have hself : BlkR ι (w.setCells p.block (p.off + k) vs) p (.cells cs' true unit) := by
    refine ⟨?_, by rw [World.size_setCells]; exact hlt, fun _ => ⟨hl', hunit, fun j hj => ?_⟩⟩
    · intro j x hx
      rcases hget' j x hx with ⟨m, rfl, hm⟩ | ⟨hj, hx⟩
      · obtain ⟨y, hy, r⟩ := hr.get' hm
        refine ⟨y, ?_, r⟩
        have hml := (List.getElem?_eq_some_iff.1 hy).1
        have := hin m hml
        rw [show p.off + (k + m) = p.off + k + m by omega, this]
        rw [List.getElem?_eq_getElem hml] at hy; exact hy
      · obtain ⟨y, hy, r⟩ := hc j x hx
        exact ⟨y, by rw [hout _ (by simp; omega)]; exact hy, r⟩
    · constructor
      · by_cases hjk : j < k ∨ k + vs.length ≤ j
        · rw [hout _ (by simp; omega)]; exact (hcells j hj).1
        · have := hin (j - k) (by omega)
          rw [show p.off + j = p.off + k + (j - k) by omega, this]
          exact ⟨vs[j - k]'(by omega), rfl⟩
      · rw [World.frozen?_setCells]; exact (hcells j hj).2
  have which : ∀ j b, hget (h.set i (some (.cells cs' true unit))) j = some b → (j = i ∧ b = .cells cs' true unit) ∨ (j ≠ i ∧ hget h j = some b) := by
    intro j b hj
    rw [hget_set] at hj
    split at hj
    · rename_i hij; simp at hj; exact .inl ⟨hij.1.symm, hj.symm⟩
    · rename_i hij
      by_cases hji : j = i
      · subst hji; exact absurd ⟨rfl, hget_lt hg⟩ hij
      · exact .inr ⟨hji, hj⟩
  refine ⟨⟨by simp [R.len], ?_, ?_⟩, ⟨List.prefix_refl _, (World.os_setCells vs _ w).1, (World.os_setCells vs _ w).2.1, (World.os_setCells vs _ w).2.2, by rw [World.size_setCells]; exact Nat.le_refl _, ?_, ?_⟩, c1, c2⟩
  · intro j b hj
    rcases which j b hj with ⟨rfl, rfl⟩ | ⟨hji, hj⟩
    · exact ⟨p, hp, hself⟩
    · obtain ⟨q, hq, r⟩ := R.blk j b hj
      refine ⟨q, hq, r.world (fun hs => World.heap_setCells vs _ w _ ?_) (by rw [World.size_setCells]; exact Nat.le_refl _)⟩
      exact (R.apart i j _ b p q hg rfl hj hs (fun e => hji e.symm) hp hq).symm
  · intro a c b d q q' h1 h2 h3 hsd h4 h5 h6
    have own' : ∀ j b, hget (h.set i (some (.cells cs' true unit))) j = some b → ∃ b', hget h j = some b' ∧ (owns b = true → owns b' = true) ∧ (solid b = true → solid b' = true) := by
      intro j b hj
      rcases which j b hj with ⟨rfl, rfl⟩ | ⟨_, hj⟩
      · exact ⟨_, hg, fun _ => rfl, fun _ => rfl⟩
      · exact ⟨b, hj, id, id⟩
    obtain ⟨b', e1, e2, _⟩ := own' a b h1
    obtain ⟨d', e3, _, e4⟩ := own' c d h3
    exact R.apart a c b' d' q q' e1 (e2 h2) e3 (e4 hsd) h4 h5 h6
  · intro b _ hb
    exact World.heap_setCells vs _ w b (fun e => hb i _ p hg rfl hp e.symm)
  · intro j c q h1 h2 h3
    rcases which j c h1 with ⟨rfl, rfl⟩ | ⟨_, hj⟩
    · exact .inl ⟨j, _, q, hg, rfl, h3, rfl⟩
    · exact .inl ⟨j, c, q, hj, h2, h3, rfl⟩
theorem RelH.store {ι : List Place} {h : Heap} {w : World} (R : RelH ι h w) {i k : Nat} {cs : List Value} {unit : Nat} (hg : hget h i = some (.cells cs true unit)) {p : Place} (hp : ι[i]? = some p) {us vs : List Value} (hr : VRs ι us vs) (hk : k + us.length ≤ cs.length) :
    RelH ι (h.set i (some (.cells (setL cs k us) true unit))) (w.setCells p.block (p.off + k) vs) ∧ Grow ι h w ι (h.set i (some (.cells (setL cs k us) true unit))) (w.setCells p.block (p.off + k) vs) ∧
      (∀ j, j < vs.length → (w.cell? ⟨p.block, p.off + k + j, none⟩).isSome = true) ∧ (∀ j, j < vs.length → w.frozen? ⟨p.block, p.off + k + j, none⟩ = false) := by
  obtain ⟨p', hp', hb⟩ := R.blk i _ hg
  rw [hp] at hp'; simp at hp'; subst hp'
  have hroom := (hb.2.2 rfl).1
  refine R.store' hg hp hr (by omega) (by rw [setL_length]; exact hroom) fun j x hx => ?_
  by_cases hj : j < k ∨ k + us.length ≤ j
  · rw [setL_get_out us cs k j hj] at hx; exact .inr ⟨hj, hx⟩
  · have hj' : j = k + (j - k) := by omega
    rw [hj', setL_get_in us cs k (j - k) (by omega) hk] at hx
    exact .inl ⟨j - k, hj', hx⟩
/-- An own block, seen from another place on, under a new number; the old number is let go. -/
theorem RelH.moved {ι : List Place} {h : Heap} {w : World} (R : RelH ι h w) {i k : Nat} {cs : List Value} {unit : Nat} (hg : hget h i = some (.cells cs true unit)) {p : Place} (hp : ι[i]? = some p) (hk : k ≤ cs.length) :
    RelH (ι ++ [⟨p.block, p.off + k, p.room - k, unit⟩]) (h.set i none ++ [some (.cells (cs.drop k) true unit)]) w ∧ Grow ι h w (ι ++ [⟨p.block, p.off + k, p.room - k, unit⟩]) (h.set i none ++ [some (.cells (cs.drop k) true unit)]) w := by
  obtain ⟨p', hp', hb⟩ := R.blk i _ hg
  rw [hp] at hp'; simp at hp'; subst hp'
  obtain ⟨hc, hlt, hown⟩ := hb
  obtain ⟨hroom, hunit, hcells⟩ := hown rfl
  have hpre : ι <+: ι ++ [⟨p.block, p.off + k, p.room - k, unit⟩] := List.prefix_append _ _
  have hls : (h.set i none).length = h.length := by simp
  have newb : (ι ++ [⟨p.block, p.off + k, p.room - k, unit⟩])[h.length]? = some ⟨p.block, p.off + k, p.room - k, unit⟩ := by
    rw [← R.len]; simp
  have which : ∀ j b, hget (h.set i none ++ [some (.cells (cs.drop k) true unit)]) j = some b → (j ≠ i ∧ j < h.length ∧ hget h j = some b) ∨ (j = h.length ∧ b = .cells (cs.drop k) true unit) := by
    intro j b hj
    have hjl := hget_lt hj
    by_cases hl : j < h.length
    · rw [hget_append (by simpa using hl), hget_set] at hj
      split at hj
      · simp at hj
      · rename_i hij
        exact .inl ⟨fun e => hij ⟨e.symm, by rw [← e]; exact hl⟩, hl, hj⟩
    · have : j = h.length := by simp at hjl; omega
      subst this
      have e := hget_append_new (h := h.set i none) (g := [some (Blk.cells (cs.drop k) true unit)]) (k := 0)
      simp only [Nat.add_zero, hls] at e
      rw [e] at hj
      simp [hget] at hj
      exact .inr ⟨rfl, hj.symm⟩
  have oldp : ∀ j b q, hget h j = some b → (ι ++ [⟨p.block, p.off + k, p.room - k, unit⟩])[j]? = some q → ι[j]? = some q := by
    intro j b q hj hq
    rwa [List.getElem?_append_left (R.lt hj)] at hq
  refine ⟨⟨by simp [R.len], ?_, ?_⟩, hpre, rfl, rfl, rfl, Nat.le_refl _, fun _ _ _ => rfl, ?_⟩
  · intro j b hj
    rcases which j b hj with ⟨_, _, ho⟩ | ⟨rfl, rfl⟩
    · obtain ⟨q, hq, r⟩ := R.blk j b ho
      exact ⟨q, by rw [List.getElem?_append_left (R.lt ho)]; exact hq, r.mono hpre⟩
    · refine ⟨_, newb, ?_, hlt, fun _ => ⟨by simp; omega, rfl, fun m hm => ?_⟩⟩
      · intro m x hx
        rw [List.getElem?_drop] at hx
        obtain ⟨y, hy, r⟩ := hc _ x hx
        exact ⟨y, by rw [show p.off + k + m = p.off + (k + m) by omega]; exact hy, r.mono hpre⟩
      · have hm' : m < p.room - k := hm
        rw [show p.off + k + m = p.off + (k + m) by omega]
        exact hcells (k + m) (by omega)
  · intro j l b d q q' hb ho hd hsd hjl hq hq'
    rcases which j b hb with ⟨hji, _, h1⟩ | ⟨rfl, rfl⟩
    · rcases which l d hd with ⟨hli, _, h2⟩ | ⟨rfl, rfl⟩
      · exact R.apart j l b d q q' h1 ho h2 hsd hjl (oldp j b q h1 hq) (oldp l d q' h2 hq')
      · rw [newb] at hq'; simp at hq'; subst hq'
        exact R.apart j i b _ q p h1 ho hg rfl hji (oldp j b q h1 hq) hp
    · rw [newb] at hq; simp at hq; subst hq
      rcases which l d hd with ⟨hli, _, h2⟩ | ⟨rfl, rfl⟩
      · exact R.apart i l _ d p q' hg rfl h2 hsd (fun e => hli e.symm) hp (oldp l d q' h2 hq')
      · exact absurd rfl hjl
  · intro j c q hj ho hq
    rcases which j c hj with ⟨_, _, h1⟩ | ⟨rfl, rfl⟩
    · exact .inl ⟨j, c, q, h1, ho, oldp j c q h1 hq, rfl⟩
    · rw [newb] at hq; simp at hq; subst hq
      exact .inl ⟨i, _, p, hg, rfl, hp, rfl⟩
end Go.Sx
end
section
/-
  Sx, part I: soundness of the operations that make or turn blocks. Own words; no condition.
-/
namespace Go.Sx
open Go
variable {P : Program} {ty : TypeId → Option TD}

theorem zerosN_length (z : List Value) : ∀ n, (zerosN z n).length = n * z.length
  | 0 => by simp [zerosN]
  | n + 1 => by simp [zerosN, zerosN_length z n, Nat.add_mul]; omega
theorem zerosN_get (z : List Value) : ∀ (n i : Nat), i < n * z.length → (zerosN z n)[i]? = z[i % z.length]?
  | 0, i, h => by simp at h
  | n + 1, i, h => by
    rw [zerosN]
    by_cases hi : i < z.length
    · rw [List.getElem?_append_left hi, Nat.mod_eq_of_lt hi]
    · rw [List.getElem?_append_right (by omega), zerosN_get z n (i - z.length) (by rw [Nat.add_mul] at h; omega)]
      rw [← Nat.mod_eq_sub_mod (by omega)]
theorem zero_row (z : Array Value) (n : Nat) : ((Array.range (n * z.size)).map (fun i => z[i % z.size]!)).toList = zerosN z.toList n := by
  apply List.ext_getElem?
  intro i
  by_cases hi : i < n * z.size
  · rw [zerosN_get z.toList n i (by simpa using hi)]
    have hz : 0 < z.size := by
      rcases Nat.eq_zero_or_pos z.size with h | h
      · rw [h] at hi; simp at hi
      · exact h
    have hm : i % z.size < z.size := Nat.mod_lt _ hz
    simp [hi, hm]
  · rw [List.getElem?_eq_none (by simp; omega), List.getElem?_eq_none (by rw [zerosN_length]; simp; omega)]
theorem zerosN_closed {z : List Value} (h : ∀ x ∈ z, closed1 x = true) : ∀ n, ∀ x ∈ zerosN z n, closed1 x = true
  | 0, x, hx => by simp [zerosN] at hx
  | n + 1, x, hx => by
    simp only [zerosN, List.mem_append] at hx
    rcases hx with hx | hx
    · exact h x hx
    · exact zerosN_closed h n x hx
theorem undef_VR {ι : List Place} : VR ι undef undef := .tuple _ _ rfl (fun k x y hx => by simp at hx)
/-- What an operation that is no call does: the answer, the places then, the world then. -/
def Does (P : Program) (ι : List Place) (h : Heap) (w : World) (s : Sem Next) (v : Value) (h' : Heap) : Prop :=
  ∃ nx y κ w', s.run P w = .ok nx w' ∧ (nx = .value y ∨ nx = .skip ∧ y = undef) ∧ VR κ v y ∧ RelH κ h' w' ∧ Grow ι h w κ h' w'
theorem new_place (ι : List Place) (h : Heap) (hl : ι.length = h.length) (p : Place) : (ι ++ [p])[h.length]? = some p := by
  rw [← hl]; simp
/-- A new block of related cells, and the pointer to it. -/
theorem does_newRow {ι : List Place} {h : Heap} {w : World} (R : RelH ι h w) {cs : List Value} {c : Array Value} (hr : VRs ι cs c.toList) (e : TypeId) (unit : Nat) :
    ∃ κ, (newRow e c).run P w = .ok ⟨w.heap.size, 0, none⟩ (w.alloc (.cells c e)) ∧ κ[h.length]? = some ⟨w.heap.size, 0, cs.length, unit⟩ ∧ RelH κ (h ++ [some (.cells cs true unit)]) (w.alloc (.cells c e)) ∧ Grow ι h w κ (h ++ [some (.cells cs true unit)]) (w.alloc (.cells c e)) := by
  have hl : cs.length = c.size := by rw [hr.length]; simp
  obtain ⟨h1, h2⟩ := R.new (c := c) (e := e) (cs := cs) (by rw [List.take_of_length_le (by simp; omega)]; exact hr) (Nat.le_refl _) (by omega) unit
  exact ⟨_, by simp [newRow], new_place ι h R.len _, h1, h2⟩
theorem first_cells {ι : List Place} {h : Heap} {w : World} (R : RelH ι h w) {size : Nat} {y y' : Value} {row : List Value} {n m : Nat} (hr : rowOf size h y = some row) {k : IntKind} (hn : lenC y = some (.int k (n : Int))) (hl : row.length = n * size) (hy : VR ι y y') (hm : m ≤ n) :
    (Builtin.lenOf y').run P w = .ok n w ∧ ∃ l', (Builtin.firstCells size m y').run P w = .ok l' w ∧ VRs ι (row.take (m * size)) l'.toList := by
  cases y <;> simp [lenC] at hn
  · -- a string
    rename_i s
    obtain rfl := hy.string_inv
    simp [rowOf] at hr; subst hr
    have hn' : s.size = n := by omega
    refine ⟨by simp [Builtin.lenOf, hn'], _, by simp only [Builtin.firstCells, Sem.run_pure]; rfl, ?_⟩
    have h0 : n = n * size := by rw [← hl]; simp [← hn']
    have hms : m * size = m ∨ n = 0 := by
      rcases Nat.eq_zero_or_pos n with h | h
      · exact .inr h
      · left
        have : size = 1 := by
          have : n * 1 = n * size := by omega
          exact (Nat.eq_of_mul_eq_mul_left h this).symm
        rw [this]; simp
    have e : (((s.extract 0 m).data.map fun b => Value.int .u8 (b.toNat : Int))).toList = (s.data.toList.map fun b => Value.int .u8 (b.toNat : Int)).take (m * size) := by
      rcases hms with h | h
      · rw [h, ← List.map_take]; simp [ByteArray.data_extract]
      · subst h
        have hm0 : m = 0 := by omega
        subst hm0
        simp
    rw [e]
    exact VRs.closed (by intro x hx; have := List.mem_of_mem_take hx; simp at this; obtain ⟨b, _, rfl⟩ := this; rfl)
  · -- a slice
    rename_i a len c
    have hn' : len = n := by omega
    subst hn'
    have hlen : ∃ a' c', y' = .slice a' len c' := by
      cases a with
      | none => exact ⟨_, _, hy.closed_inv rfl⟩
      | some a => rcases hy.slice_inv with ⟨_, _, _, _, _, _, rfl⟩ | ⟨_, _, _, _, _, _, _, _, _, rfl⟩ | ⟨_, _, rfl, rfl, _⟩ | ⟨_, rfl, rfl, _⟩ <;> exact ⟨_, _, rfl⟩
    obtain ⟨a', c', rfl⟩ := hlen
    refine ⟨by simp [Builtin.lenOf], ?_⟩
    cases a with
    | none =>
      simp [rowOf] at hr; subst hr
      have he := hy.closed_inv rfl
      simp at he; obtain ⟨rfl, _⟩ := he
      exact ⟨#[], by simp [Builtin.firstCells], by simp [VRs]⟩
    | some a =>
      have main : ∀ (i k : Nat) (p : Place), a = ⟨i, k, none⟩ → ι[i]? = some p → a' = some ⟨p.block, p.off + k, none⟩ → ∃ l', (Builtin.firstCells size m (.slice a' len c')).run P w = .ok l' w ∧ VRs ι (row.take (m * size)) l'.toList := by
        rintro i k p rfl hp rfl
        simp only [rowOf, Option.bind_eq_some_iff] at hr
        obtain ⟨cs, hcs, hs⟩ := hr
        obtain ⟨hle, rfl⟩ := slc_some hs
        have hms : m * size ≤ len * size := Nat.mul_le_mul_right _ hm
        have hs' : slc cs k (m * size) = some ((cs.drop k).take (m * size)) := by
          unfold slc; rw [if_pos (by omega)]
        obtain ⟨l', h1, h2, h3⟩ := cells_row (R.cells hcs hp) hs'
        have hrun := run_loadCells_list (P := P) (w := w) ⟨p.block, p.off + k, none⟩ l' h3
        rw [h2] at hrun
        refine ⟨l'.toArray, by simp only [Builtin.firstCells, hrun], ?_⟩
        rw [List.take_take, Nat.min_eq_left hms]
        simpa using h1
      rcases hy.slice_inv with ⟨i, k, p, h1, h2, _, h4⟩ | ⟨i, k, p, c, h1, _, h2, _, _, h4⟩ | ⟨b, _, h0, h4, _⟩ | ⟨_, h0, h4, _⟩
      · simp at h4; exact main i k p h1 h2 h4.1
      · simp at h4; exact main i k p h1 h2 h4.1
      · simp at h4
        obtain ⟨rfl, _, _⟩ := h4
        have hm0 : m = 0 := by omega
        subst hm0
        exact ⟨#[], by simp [Builtin.firstCells, loadCells, loadCellsFrom], by simp [VRs]⟩
      · simp at h4
        obtain ⟨rfl, _⟩ := h4
        have hm0 : m = 0 := by omega
        subst hm0
        exact ⟨#[], by simp [Builtin.firstCells], by simp [VRs]⟩
theorem allOne {l : List Value} (h : l.all one1 = true) : ∀ x ∈ l, one1 x = true := fun x hx => List.all_eq_true.1 h x hx
theorem VRs.one {ι : List Place} : ∀ {xs ys : List Value}, VRs ι xs ys → (∀ x ∈ xs, one1 x = true) → ∀ y ∈ ys, y.oneCell' = true
  | [], [], _, _, y, hy => by simp at hy
  | x :: xs, z :: ys, ⟨a, b⟩, h, y, hy => by
    have e : ∀ v : Value, v.oneCell' = one1 v := fun v => by cases v <;> rfl
    simp at hy
    rcases hy with rfl | hy
    · rw [e]; exact a.one1 (h x (by simp))
    · exact VRs.one b (fun z hz => h z (by simp [hz])) y hy
  | [], _ :: _, h, _, _, _ => h.elim
  | _ :: _, [], h, _, _, _ => h.elim
theorem does_store (T : TyOk P ty) {ι : List Place} {h : Heap} {w : World} (R : RelH ι h w) {t : TypeId} {d : TD} (ht : ty t = some d) {p x p' x' : Value} {h' : Heap} (hs : storeC d h p x = some h') (hp : VR ι p p') (hx : VR ι x x') :
    ∃ w', (Instr.storeAt t p' x').run P w = .ok () w' ∧ RelH ι h' w' ∧ Grow ι h w ι h' w' := by
  unfold storeC at hs
  split at hs
  · rename_i i k
    obtain ⟨q, hq, rfl⟩ := hp.ptr_inv
    split at hs
    · rename_i cs own unit hg
      split at hs
      · simp only [Option.ite_none_right_eq_some, Option.some.injEq] at hs
        obtain ⟨⟨h1, h2, h3⟩, rfl⟩ := hs
        have hc := hx.cells
        obtain ⟨r1, r2, r3, r4⟩ := R.store hg hq hc (k := k) (by omega)
        refine ⟨_, ?_, r1, r2⟩
        have hrun := run_storeCells_cells (P := P) q.block (q.off + k) x'.cells.toList 0 w (by simpa using r3) (by simpa using r4) (hc.one (allOne h3))
        have hsz : x'.cells.size = d.size := by rw [← h2, hc.length]; simp
        simp only [Nat.add_zero] at hrun
        simp only [Instr.storeAt, Instr.sureAddr, storeVar, Sem.run_bind, Sem.run_pure, Result.andThen_ok, T.sizeOf ht, hsz]
        simp [hrun]
      · simp at hs
    · simp at hs
  · simp at hs
theorem does_copy (T : TyOk P ty) {ι : List Place} {h : Heap} {w : World} (R : RelH ι h w) {t0 e : TypeId} {d0 d : TD} (ht0 : ty t0 = some d0) (hk : d0.desc = .slice e) (ht : ty e = some d) {ats : Array TypeId} (hat : ats[0]? = some t0) {x y x' y' : Value} {rest : List Value} {v : Value} {h' : Heap} (hs : copyC d h x y = some (v, h')) (hx : VR ι x x') (hy : VR ι y y') (ot : TypeId) :
    ∃ w', (Builtin.copy_ ats ot (x' :: y' :: rest).toArray).run P w = .ok v w' ∧ closed1 v = true ∧ RelH ι h' w' ∧ Grow ι h w ι h' w' := by
  have hu := T.underlying ht0 w
  rw [hk] at hu
  simp only [copyC, Option.bind_eq_some_iff] at hs
  obtain ⟨nv, hnv, hs⟩ := hs
  split at hs
  · rename_i kk ni
    have hni : ∃ n : Nat, ni = (n : Int) := by
      cases y <;> simp [lenC] at hnv
      · exact ⟨_, hnv.2.symm⟩
      · exact ⟨_, hnv.2.symm⟩
    obtain ⟨n, rfl⟩ := hni
    simp only [Int.toNat_natCast] at hs
    split at hs
    · rename_i a len cap
      simp only [Option.bind_eq_some_iff] at hs
      obtain ⟨row, hrow, hs⟩ := hs
      split at hs
      · simp only [Option.ite_none_right_eq_some, Option.some.injEq, Prod.mk.injEq] at hs
        obtain ⟨rfl, rfl, rfl⟩ := hs
        obtain rfl := hx.closed_inv rfl
        have hn1 : row.length = row.length := rfl
        -- nothing is copied
        have : ∃ l', (Builtin.lenOf y').run P w = .ok n w ∧ (Builtin.firstCells d.size 0 y').run P w = .ok l' w := by
          cases y <;> simp [lenC] at hnv
          · rename_i s
            obtain rfl := hy.string_inv
            have : s.size = n := by have := hnv.2; omega
            exact ⟨_, by simp [Builtin.lenOf, this], rfl⟩
          · rename_i a len c
            have hn' : len = n := by have := hnv.2; omega
            cases a with
            | none => obtain rfl := hy.closed_inv rfl; exact ⟨#[], by simp [Builtin.lenOf, hn'], by simp [Builtin.firstCells]⟩
            | some a => rcases hy.slice_inv with ⟨_, _, _, _, _, _, rfl⟩ | ⟨_, _, _, _, _, _, _, _, _, rfl⟩ | ⟨_, _, rfl, rfl, _⟩ | ⟨_, rfl, rfl, _⟩ <;> exact ⟨#[], by simp [Builtin.lenOf, hn'], by simp [Builtin.firstCells, loadCells, loadCellsFrom]⟩
        obtain ⟨l', q1, q2⟩ := this
        refine ⟨w, ?_, rfl, R, .refl _ _ _⟩
        simp [Builtin.copy_, hat, hu, q1, T.sizeOf ht, q2, goInt]
      · rename_i i k
        split at hs
        · rename_i cs own unit hg
          split at hs
          · simp only [Option.ite_none_right_eq_some, Option.some.injEq, Prod.mk.injEq] at hs
            obtain ⟨⟨h1, h2, h3⟩, rfl, rfl⟩ := hs
            obtain ⟨f1, l', f2, f3⟩ := first_cells (P := P) R hrow (m := min n len) hnv h3 hy (Nat.min_le_left _ _)
            have hlen' : (row.take (min n len * d.size)).length = min n len * d.size := by
              have : min n len * d.size ≤ n * d.size := Nat.mul_le_mul_right _ (Nat.min_le_left _ _)
              rw [List.length_take]; omega
            have main : ∀ (q : Place) (c' : Nat), ι[i]? = some q → x' = .slice (some ⟨q.block, q.off + k, none⟩) len c' →
                ∃ w', (Builtin.copy_ ats ot (x' :: y' :: rest).toArray).run P w = .ok (.int .i64 (min n len : Nat)) w' ∧ closed1 (.int .i64 (min n len : Nat)) = true ∧ RelH ι (h.set i (some (.cells (setL cs k (row.take (min n len * d.size))) true unit))) w' ∧ Grow ι h w ι (h.set i (some (.cells (setL cs k (row.take (min n len * d.size))) true unit))) w' := by
              rintro q c' hq rfl
              obtain ⟨r1, r2, r3, r4⟩ := R.store hg hq f3 (k := k) (by omega)
              have hrun := run_storeCells_cells (P := P) q.block (q.off + k) l'.toList 0 w (by simpa using r3) (by simpa using r4) (f3.one (allOne h2))
              simp only [Nat.add_zero] at hrun
              refine ⟨_, ?_, rfl, r1, r2⟩
              simp only [Builtin.copy_, hat, List.getElem?_toArray, List.getElem?_cons_zero, List.getElem?_cons_succ, Sem.run_bind, hu, Result.andThen_ok, f1, T.sizeOf ht, Sem.run_pure]
              rw [show Nat.min n len = min n len from rfl, f2]
              simp only [Result.andThen_ok, hrun]
              rfl
            rcases hx.slice_inv with ⟨i', k', p, he, hp, _, hx'⟩ | ⟨i', k', p, c', he, _, hp, _, _, hx'⟩ | ⟨b, _, h0, hx', _⟩ | ⟨_, h0, hx', _⟩
            · simp at he; obtain ⟨rfl, rfl⟩ := he; exact main p _ hp hx'
            · simp at he; obtain ⟨rfl, rfl⟩ := he; exact main p _ hp hx'
            · subst h0; subst hx'
              have hl0 : l' = #[] := by
                have := f3.length
                rw [hlen'] at this
                simp at this
                exact Array.eq_empty_of_size_eq_zero this.symm
              subst hl0
              refine ⟨w, ?_, rfl, ?_⟩
              · have f2' : (Builtin.firstCells d.size 0 y').run P w = .ok #[] w := by simpa using f2
                simp [Builtin.copy_, hat, hu, f1, T.sizeOf ht, storeCells, goInt, f2']
              · obtain ⟨q, hq, _⟩ := R.blk i _ hg
                obtain ⟨r1, r2, _⟩ := R.store hg hq f3 (k := k) (by omega)
                exact ⟨r1, r2⟩
            · subst h0; subst hx'
              have hl0 : l' = #[] := by
                have := f3.length
                rw [hlen'] at this
                simp at this
                exact Array.eq_empty_of_size_eq_zero this.symm
              subst hl0
              refine ⟨w, ?_, rfl, ?_⟩
              · have f2' : (Builtin.firstCells d.size 0 y').run P w = .ok #[] w := by simpa using f2
                simp [Builtin.copy_, hat, hu, f1, T.sizeOf ht, goInt, f2']
              · obtain ⟨q, hq, _⟩ := R.blk i _ hg
                obtain ⟨r1, r2, _⟩ := R.store hg hq f3 (k := k) (by omega)
                exact ⟨r1, r2⟩
          · simp at hs
        · simp at hs
      · simp at hs
    · simp at hs
  · simp at hs
end Go.Sx
end
