/-
  Sx, part G: soundness: building, and the theorem for all operations that leave the heap as it is. Own words; no condition.
-/
import Derived.Test.YtfefdjomenfchaaSxF
namespace Go.Sx
open Go
variable {P : Program} {ty : TypeId → Option TD}

theorem foldl_setL (off : Nat) : ∀ (us : List Value) (j : Nat) (cs : Array Value),
    ((us.zipIdx j).foldl (fun cs (c : Value × Nat) => cs.setIfInBounds (off + c.2) c.1) cs).toList = setL cs.toList (off + j) us := by
  intro us
  induction us with
  | nil => intro j cs; simp [setL]
  | cons u us ih =>
    intro j cs
    simp only [List.zipIdx_cons, List.foldl_cons, setL]
    rw [ih (j + 1)]
    simp [Nat.add_assoc]
theorem fill_step (off : Nat) (v : Value) (cs : Array Value) : (v.cells.zipIdx.foldl (fun cs (c, j) => cs.setIfInBounds (off + j) c) cs).toList = setL cs.toList off v.cells.toList := by
  rw [← Array.foldl_toList]
  have := foldl_setL off v.cells.toList 0 cs
  simp only [Nat.add_zero] at this
  rw [← this, Array.toList_zipIdx]
theorem setL_length : ∀ (us cs : List Value) (k : Nat), (setL cs k us).length = cs.length
  | [], _, _ => rfl
  | u :: us, cs, k => by simp [setL, setL_length us]
/-- Parts, pairwise: of the same places. -/
def VRp (ι : List Place) : List (Nat × Value) → List (Nat × Value) → Prop
  | [], [] => True
  | x :: xs, y :: ys => x.1 = y.1 ∧ VR ι x.2 y.2 ∧ VRp ι xs ys
  | _, _ => False
theorem fill_sound {ι : List Place} {place place' : Nat → Option (Nat × Nat)} (hp : ∀ i q, place i = some q → place' i = some q) : ∀ {ps ps' : List (Nat × Value)}, VRp ι ps ps' → ∀ {cs l : List Value} {cs' : Array Value}, VRs ι cs cs'.toList → fillC place cs ps = some l →
    ∃ l' : Array Value, Instr.fill place' cs' ps' = some l' ∧ VRs ι l l'.toList
  | [], [], _, cs, l, cs', r, h => by simp [fillC] at h; subst h; exact ⟨cs', rfl, r⟩
  | (i, v) :: ps, (i', v') :: ps', ⟨he, hv, hr⟩, cs, l, cs', r, h => by
    simp only [fillC, Option.bind_eq_some_iff, Option.ite_none_right_eq_some] at h
    obtain ⟨q, hq, ⟨h1, h2⟩, h3⟩ := h
    simp at he hv; subst he
    have hcells := hv.cells
    have hlen := hcells.length
    have hsz : v'.cells.size = q.2 := by rw [← h1, hlen]; simp
    have hcs : cs.length = cs'.size := by rw [r.length]; simp
    obtain ⟨l', hl', rl⟩ := fill_sound hp hr (cs' := v'.cells.zipIdx.foldl (fun cs (c, j) => cs.setIfInBounds (q.1 + j) c) cs') (by rw [fill_step]; exact VRs.setL hcells q.1 r) h3
    refine ⟨l', ?_, rl⟩
    obtain ⟨off, size⟩ := q
    simp only at hsz h2 hl'
    simp only [Instr.fill, hp i _ hq]
    rw [if_neg (by simp [hsz]; omega)]
    exact hl'
  | [], _ :: _, h, _, _, _, _, _ => h.elim
  | _ :: _, [], h, _, _, _, _, _ => h.elim
theorem run_places (T : TyOk P ty) (w : World) : ∀ (fs : List Field), fieldsKnown ty fs = true → ∃ ps : List (Nat × Nat), (fs.mapM (m := Sem) fun f => do pure (f.offset, ← Go.sizeOf f.type)).run P w = .ok ps w ∧
    ∀ (i : Nat) (q : Nat × Nat), ((fs[i]?).bind fun (f : Field) => (ty f.type).map fun d => (f.offset, d.size)) = some q → ps[i]? = some q
  | [], _ => ⟨[], by simp, by simp⟩
  | f :: fs, h => by
    simp only [fieldsKnown, Bool.and_eq_true, Option.isSome_iff_exists] at h
    obtain ⟨⟨d, hd⟩, h⟩ := h
    obtain ⟨ps, h1, h2⟩ := run_places T w fs h
    refine ⟨(f.offset, d.size) :: ps, ?_, ?_⟩
    · simp only [List.mapM_cons, Sem.run_bind, T.sizeOf hd, Result.andThen_ok, Sem.run_pure]
      have e : Sem.run P (List.mapM (fun f => do pure (f.offset, ← Go.sizeOf f.type)) fs) w = .ok ps w := h1
      rw [e]; rfl
    · intro i q hq
      cases i with
      | zero => simp [hd] at hq; simp [hq]
      | succ i => simpa using h2 i q (by simpa using hq)
theorem mapM_list (f : Field → Sem (Nat × Nat)) (fs : Array Field) (w : World) {ps : List (Nat × Nat)} (h : (fs.toList.mapM f).run P w = .ok ps w) : (fs.mapM f).run P w = .ok ps.toArray w := by
  rw [Array.mapM_eq_mapM_toList]
  simp [h]
theorem zero_VRs (T : TyOk P ty) {ι : List Place} {t : TypeId} {d : TD} (ht : ty t = some d) : VRs ι d.zero d.zero := by
  obtain ⟨_, _, _, _, _, _, _, _, hc⟩ := T.inf t d ht
  exact VRs.closed hc
theorem run_build (T : TyOk P ty) {ι : List Place} {w : World} {t : TypeId} {ps ps' : List (Nat × Value)} {v : Value} (h : buildC ty t ps = some v) (r : VRp ι ps ps') :
    ∃ z, (Instr.build t ps'.toArray).run P w = .ok z w ∧ VR ι v z := by
  simp only [buildC, Option.bind_eq_some_iff] at h
  obtain ⟨d, hd, h⟩ := h
  have hu := T.underlying hd w
  obtain ⟨z, hz, hzc⟩ := T.zeroValue hd w
  have hzr : VRs ι d.zero z.cells.toList := by rw [hzc]; exact zero_VRs T hd
  split at h
  · rename_i fs hk
    rw [hk] at hu
    simp only [Option.ite_none_right_eq_some, Option.map_eq_some_iff] at h
    obtain ⟨hf, l, hl, rfl⟩ := h
    obtain ⟨qs, h1, h2⟩ := run_places T w fs.toList hf
    obtain ⟨l', h3, h4⟩ := fill_sound (place' := fun i => qs.toArray[i]?) (fun i q hq => by simpa using h2 i q (by simpa [fplace] using hq)) r hzr hl
    refine ⟨.agg l', ?_, VR.agg' (by simpa using h4)⟩
    have hm := mapM_list (P := P) _ fs w h1
    simp only [Instr.build, Sem.run_bind, hz, Result.andThen_ok, hu, hm, h3, Sem.run_pure]
  · rename_i n e hk
    rw [hk] at hu
    simp only [Option.bind_eq_some_iff, Option.map_eq_some_iff] at h
    obtain ⟨d', hd', l, hl, rfl⟩ := h
    obtain ⟨l', h3, h4⟩ := fill_sound (place' := fun i => some (i * d'.size, d'.size)) (fun i q hq => hq) r hzr hl
    refine ⟨.agg l', ?_, VR.agg' (by simpa using h4)⟩
    simp only [Instr.build, Sem.run_bind, hz, Result.andThen_ok, hu, T.sizeOf hd', h3, Sem.run_pure]
  · simp at h
theorem RelT.evps {ι : List Place} {tm : List (Nat × Ent)} {N : Nat} {a : Act} (r : RelT ι tm N a) {γ : Bool} (hγ : γ = true) : ∀ {xs : List (Nat × Operand)} {vs : List (Nat × Value)}, Sx.evps γ tm xs = some vs → VRp ι vs (xs.map fun p => (p.1, a.eval p.2))
  | [], vs, h => by simp [Sx.evps, all2] at h; subst h; trivial
  | x :: xs, vs, h => by
    simp only [Sx.evps, List.map_cons, all2, Option.bind_eq_some_iff, Option.map_eq_some_iff] at h
    obtain ⟨v, ⟨u, hu, rfl⟩, l, hl, rfl⟩ := h
    exact ⟨rfl, r.ev hγ hu, RelT.evps r hγ (xs := xs) hl⟩
theorem RelT.evo {ι : List Place} {tm : List (Nat × Ent)} {N : Nat} {a : Act} (r : RelT ι tm N a) {γ : Bool} (hγ : γ = true) {x : Option Operand} {v : Option Value} (h : Sx.evo γ tm x = some v) : VRo ι v (x.map a.eval) := by
  cases x with
  | none => simp [Sx.evo] at h; subst h; trivial
  | some x =>
    simp only [Sx.evo, Option.map_eq_some_iff] at h
    obtain ⟨u, hu, rfl⟩ := h
    exact r.ev hγ hu
theorem pick_sound {ι : List Place} {β : Bool} {x y x' y' : Value} (hx : β = true → VR ι x x') (hy : β = false → VR ι y y') : VR ι (pickC β x y) (if β = true then x' else y') := by
  have key : VR ι (if β = true then x else y) (if β = true then x' else y') := by
    cases β
    · simpa using hy rfl
    · simpa using hx rfl
  unfold pickC
  split
  · split
    · cases β
      · simpa using hy rfl
      · simpa using hx rfl
    · exact key
  · exact key
theorem lenC_sound {ι : List Place} {x v : Value} (h : lenC x = some v) {x' : Value} (hx : VR ι x x') : lenC x' = some v := by
  cases x <;> simp [lenC] at h
  · obtain rfl := hx.string_inv; simpa [lenC] using h
  · rename_i a n c
    cases a with
    | none => obtain rfl := hx.closed_inv rfl; simpa [lenC] using h
    | some a =>
      rcases hx.slice_inv with ⟨_, _, _, _, _, _, rfl⟩ | ⟨_, _, _, _, _, _, _, _, _, rfl⟩ | ⟨_, _, rfl, rfl, _⟩ | ⟨_, rfl, rfl, _⟩ <;> simpa [lenC] using h
theorem fold_min {ι : List Place} (w : World) : ∀ {l l' : List Value} {x x' v : Value}, VR ι x x' → VRs ι l l' → foldC minC x l = some v → ∃ z, (l'.foldlM Builtin.min2 x').run P w = .ok z w ∧ VR ι v z
  | [], [], x, x', v, hx, _, h => by simp [foldC] at h; subst h; exact ⟨x', by simp, hx⟩
  | y :: l, y' :: l', x, x', v, hx, ⟨hy, hl⟩, h => by
    simp only [foldC, Option.bind_eq_some_iff] at h
    obtain ⟨z, hz, h⟩ := h
    cases x <;> simp [minC] at hz
    rename_i k n
    cases y <;> simp at hz
    rename_i k' m
    obtain rfl := hx.int_inv
    obtain rfl := hy.int_inv
    obtain ⟨u, hu, hr⟩ := fold_min w (x' := z) (by subst hz; exact .same _ rfl) hl h
    refine ⟨u, ?_, hr⟩
    subst hz
    simp [Builtin.min2, hu]
  | [], _ :: _, _, _, _, _, h, _ => h.elim
  | _ :: _, [], _, _, _, _, h, _ => h.elim
theorem fold_max {ι : List Place} (w : World) : ∀ {l l' : List Value} {x x' v : Value}, VR ι x x' → VRs ι l l' → foldC maxC x l = some v → ∃ z, (l'.foldlM Builtin.max2 x').run P w = .ok z w ∧ VR ι v z
  | [], [], x, x', v, hx, _, h => by simp [foldC] at h; subst h; exact ⟨x', by simp, hx⟩
  | y :: l, y' :: l', x, x', v, hx, ⟨hy, hl⟩, h => by
    simp only [foldC, Option.bind_eq_some_iff] at h
    obtain ⟨z, hz, h⟩ := h
    cases x <;> simp [maxC] at hz
    rename_i k n
    cases y <;> simp at hz
    rename_i k' m
    obtain rfl := hx.int_inv
    obtain rfl := hy.int_inv
    obtain ⟨u, hu, hr⟩ := fold_max w (x' := z) (by subst hz; exact .same _ rfl) hl h
    refine ⟨u, ?_, hr⟩
    subst hz
    simp [Builtin.max2, hu]
  | [], _ :: _, _, _, _, _, h, _ => h.elim
  | _ :: _, [], _, _, _, _, h, _ => h.elim
/-- The operations that leave the heap as it is. -/
theorem semP_sound (T : TyOk P ty) {ι : List Place} {tm : List (Nat × Ent)} {N : Nat} {a : Act} {h : Heap} {w : World} {γ : Bool} (hγ : γ = true) (R : RelT ι tm N a) (H : RelH ι h w) (o : Oper) {v : Value} (hs : semP ty γ o.op tm h = some v) :
    ∃ y, (execOp a.eval o).run P w = .ok (.value y) w ∧ VR ι v y := by
  obtain ⟨dst, op, type, pos, after, guard⟩ := o
  cases op <;> simp only [semP, reduceCtorEq] at hs
  case move x => exact ⟨_, by simp [execOp], R.ev hγ hs⟩
  case assign x => exact ⟨_, by simp [execOp], R.ev hγ hs⟩
  case pick c x y =>
    simp only [Option.bind_eq_some_iff] at hs
    obtain ⟨cv, hc, hs⟩ := hs
    split at hs
    · rename_i β
      simp only [Option.bind_eq_some_iff, Option.map_eq_some_iff] at hs
      obtain ⟨xv, hx, yv, hy, rfl⟩ := hs
      have hcb := (R.ev hγ hc).bool_inv
      refine ⟨_, ?_, pick_sound (x' := a.eval x) (y' := a.eval y) (fun hb => R.ev (by simp [hγ, hb]) hx) (fun hb => R.ev (by simp [hγ, hb]) hy)⟩
      simp [execOp, hcb, asBool]
    · simp at hs
  case build t ps =>
    simp only [Option.bind_eq_some_iff] at hs
    obtain ⟨l, hl, hs⟩ := hs
    obtain ⟨z, hz, hr⟩ := run_build (P := P) T (w := w) hs (R.evps hγ hl)
    refine ⟨z, ?_, hr⟩
    have e : (ps.map fun (i, x) => (i, a.eval x)) = (List.map (fun p : Nat × Operand => (p.fst, a.eval p.snd)) ps.toList).toArray := by
      apply Array.ext'; simp
    simp only [execOp, e, Sem.run_bind, hz, Result.andThen_ok, Sem.run_pure]
  case load t x =>
    simp only [Option.bind_eq_some_iff] at hs
    obtain ⟨d, hd, xv, hx, hs⟩ := hs
    obtain ⟨y, hy, hr⟩ := run_loadVar T H hd (R.ev hγ hx) hs
    exact ⟨y, by simp [execOp, hy], hr⟩
  case nilCheck x =>
    simp only [Option.bind_eq_some_iff] at hs
    obtain ⟨xv, hx, hs⟩ := hs
    have hv := R.ev hγ hx
    split at hs
    · simp at hs; subst hs
      obtain ⟨i, k, p, _, _, he⟩ := hv.ptr_inv'
      rw [he] at hv
      exact ⟨_, by simp [execOp, he], hv⟩
    · simp at hs; subst hs
      obtain ⟨z, he, _⟩ := hv.iface_inv
      rw [he] at hv
      exact ⟨_, by simp [execOp, he], hv⟩
    · simp at hs; subst hs
      obtain ⟨ys, vs, he, _, _⟩ := hv.func_inv
      rw [he] at hv
      exact ⟨_, by simp [execOp, he], hv⟩
    · simp at hs
  case binOp op t x y yt =>
    simp only [Option.bind_eq_some_iff] at hs
    obtain ⟨d, hd, xv, hx, yv, hy, hs⟩ := hs
    obtain ⟨z, hz, hr⟩ := run_bin T hd hs (R.ev hγ hx) (R.ev hγ hy) x y w
    refine ⟨z, ?_, hr⟩
    simp only [execOp, Sem.run_bind] at hz ⊢
    rw [hz]; rfl
  case unOp op t x =>
    simp only [Option.bind_eq_some_iff] at hs
    obtain ⟨xv, hx, hs⟩ := hs
    obtain ⟨z, hz, hr⟩ := run_un (P := P) hs (R.ev hγ hx) w
    exact ⟨z, by simp [execOp, hz], hr⟩
  case convert src t x =>
    simp only [Option.bind_eq_some_iff] at hs
    obtain ⟨xv, hx, hs⟩ := hs
    obtain ⟨z, hz, hr⟩ := run_conv T H hs (R.ev hγ hx)
    exact ⟨z, by simp [execOp, hz], hr⟩
  case sliceToArrayPointer t x =>
    simp only [Option.bind_eq_some_iff] at hs
    obtain ⟨d, hd, xv, hx, hs⟩ := hs
    have hu := T.underlying hd w
    split at hs
    · rename_i n e hk
      rw [hk] at hu
      split at hs
      · rename_i b len c
        simp only [Option.ite_none_right_eq_some, Option.some.injEq] at hs
        obtain ⟨⟨hn, h0⟩, rfl⟩ := hs
        have hv := R.ev hγ hx
        cases b with
        | none =>
          have he := hv.closed_inv rfl
          refine ⟨.pointer none, ?_, .same _ rfl⟩
          simp [execOp, he, Instr.arrayAt, hu, Nat.not_lt.2 hn]
        | some b =>
          rcases hv.slice_inv with ⟨i, k, p, rfl, hp, _, he⟩ | ⟨i, k, p, c', rfl, _, hp, _, _, he⟩ | ⟨b', _, rfl, he, _⟩ | ⟨_, rfl, he, _⟩
          · refine ⟨_, ?_, .ptr i k p hp⟩
            simp [execOp, he, Instr.arrayAt, hu, Nat.not_lt.2 hn]
          · refine ⟨_, ?_, .ptr i k p hp⟩
            simp [execOp, he, Instr.arrayAt, hu, Nat.not_lt.2 hn]
          · omega
          · omega
      · simp at hs
    · simp at hs
  case makeInterface t x =>
    simp only [Option.bind_eq_some_iff] at hs
    obtain ⟨d, hd, xv, hx, hs⟩ := hs
    have hu := T.underlying hd w
    split at hs
    · simp at hs
    · rename_i hk
      simp at hs; subst hs
      refine ⟨_, ?_, .iface t _ _ (R.ev hγ hx)⟩
      simp only [execOp, Instr.makeInterface, Sem.run_bind, hu, Result.andThen_ok]
      cases hd' : d.desc <;> first | exact absurd hd' (hk _) | simp
  case makeFunc fn first captured =>
    simp only [Option.bind_eq_some_iff, Option.map_eq_some_iff] at hs
    obtain ⟨l, hl, m, hm, rfl⟩ := hs
    have r1 := R.evs hγ hl
    have r2 := R.evs hγ hm
    refine ⟨.func fn (first.map a.eval) (captured.map a.eval), by simp [execOp, Instr.makeFunc], ?_⟩
    exact .func fn _ _ _ _ (by simpa using r1.length) (fun k x y hx hy => r1.get k x y (by simpa using hx) (by simpa using hy)) (by simpa using r2.length) (fun k x y hx hy => r2.get k x y (by simpa using hx) (by simpa using hy))
  case slice t x lo hi mx =>
    simp only [Option.bind_eq_some_iff] at hs
    obtain ⟨xv, hx, l, hl, hh, hhh, m, hm, hs⟩ := hs
    obtain ⟨z, hz, hr⟩ := run_slice T H hs (R.ev hγ hx) (R.evo hγ hl) (R.evo hγ hhh) (R.evo hγ hm)
    exact ⟨z, by simp [execOp, hz], hr⟩
  case fieldAddr t x f =>
    simp only [Option.bind_eq_some_iff] at hs
    obtain ⟨xv, hx, hs⟩ := hs
    obtain ⟨z, hz, hr⟩ := run_fieldAddr T hs (R.ev hγ hx) w
    exact ⟨z, by simp [execOp, hz], hr⟩
  case field t x f =>
    simp only [Option.bind_eq_some_iff] at hs
    obtain ⟨xv, hx, hs⟩ := hs
    obtain ⟨z, hz, hr⟩ := run_field T hs (R.ev hγ hx) w
    exact ⟨z, by simp [execOp, hz], hr⟩
  case indexAddr t x i =>
    simp only [Option.bind_eq_some_iff] at hs
    obtain ⟨xv, hx, iv, hi, hs⟩ := hs
    obtain ⟨z, hz, hr⟩ := run_indexAddr T hs (R.ev hγ hx) (R.ev hγ hi) w
    exact ⟨z, by simp [execOp, hz], hr⟩
  case index t x i =>
    simp only [Option.bind_eq_some_iff] at hs
    obtain ⟨xv, hx, iv, hi, hs⟩ := hs
    obtain ⟨z, hz, hr⟩ := run_index T hs (R.ev hγ hx) (R.ev hγ hi) w
    exact ⟨z, by simp [execOp, hz], hr⟩
  case extract x i =>
    simp only [Option.bind_eq_some_iff] at hs
    obtain ⟨xv, hx, hs⟩ := hs
    split at hs
    · obtain ⟨ys, he, r⟩ := (R.ev hγ hx).tuple_inv
      obtain ⟨y, hy, hr⟩ := r.get' hs
      refine ⟨y, ?_, hr⟩
      have hy' : ys[i]? = some y := by simpa using hy
      simp [execOp, he, Instr.extract, hy']
    · simp at hs
  case call c =>
    obtain ⟨cl, args, ats⟩ := c
    simp only at hs
    split at hs
    · rename_i b
      simp only [Option.bind_eq_some_iff] at hs
      obtain ⟨l, hl, hs⟩ := hs
      have r := R.evs hγ hl
      have ra : (args.map a.eval).toList = args.toList.map a.eval := by simp
      cases b <;> simp only [builtP, reduceCtorEq] at hs
      case len =>
        split at hs
        · rename_i x r'
          cases hargs : args.toList.map a.eval with
          | nil => rw [hargs] at r; exact r.elim
          | cons y ys =>
            rw [hargs] at r
            have hx := r.1
            have h0 : (args.map a.eval)[0]? = some y := by
              rw [← Array.getElem?_toList, ra, hargs]; rfl
            simp only [Option.bind_eq_some_iff] at hs
            obtain ⟨t, ht, d, hd, hs⟩ := hs
            have hu := T.underlying hd w
            split at hs
            · rename_i e hk
              rw [hk] at hu
              split at hs
              · rename_i b n c
                simp at hs; subst hs
                have : ∃ b' c', y = .slice b' n c' := by
                  cases b with
                  | none => exact ⟨_, _, hx.closed_inv rfl⟩
                  | some b => rcases hx.slice_inv with ⟨_, _, _, _, _, _, rfl⟩ | ⟨_, _, _, _, _, _, _, _, _, rfl⟩ | ⟨_, _, rfl, rfl, _⟩ | ⟨_, rfl, rfl, _⟩ <;> exact ⟨_, _, rfl⟩
                obtain ⟨b', c', rfl⟩ := this
                refine ⟨.int .i64 n, ?_, .same _ rfl⟩
                simp [execOp, resolve, invoke, builtin, Builtin.len_, ht, h0, hu, goInt]
              · simp at hs
            · rename_i hk
              rw [hk] at hu
              split at hs
              · simp at hs; subst hs
                obtain rfl := hx.string_inv
                refine ⟨_, ?_, .same _ rfl⟩
                simp [execOp, resolve, invoke, builtin, Builtin.len_, ht, h0, hu, goInt]
              · simp at hs
            · rename_i n e hk
              rw [hk] at hu
              simp at hs; subst hs
              refine ⟨_, ?_, .same _ rfl⟩
              simp [execOp, resolve, invoke, builtin, Builtin.len_, ht, h0, hu, goInt]
            · simp at hs
        · simp at hs
      case min =>
        split at hs
        · rename_i x r'
          cases hargs : args.toList.map a.eval with
          | nil => rw [hargs] at r; exact r.elim
          | cons y ys =>
            rw [hargs] at r
            obtain ⟨z, hz, hr⟩ := fold_min (P := P) w r.1 r.2 hs
            refine ⟨z, ?_, hr⟩
            have e : (args.map a.eval).toList = y :: ys := by rw [ra, hargs]
            simp only [execOp, resolve, invoke, builtin, Builtin.min_, e, Sem.run_bind, Sem.run_pure, Result.andThen_ok, hz]
        · simp at hs
      case max =>
        split at hs
        · rename_i x r'
          cases hargs : args.toList.map a.eval with
          | nil => rw [hargs] at r; exact r.elim
          | cons y ys =>
            rw [hargs] at r
            obtain ⟨z, hz, hr⟩ := fold_max (P := P) w r.1 r.2 hs
            refine ⟨z, ?_, hr⟩
            have e : (args.map a.eval).toList = y :: ys := by rw [ra, hargs]
            simp only [execOp, resolve, invoke, builtin, Builtin.max_, e, Sem.run_bind, Sem.run_pure, Result.andThen_ok, hz]
        · simp at hs
    · simp at hs
end Go.Sx
