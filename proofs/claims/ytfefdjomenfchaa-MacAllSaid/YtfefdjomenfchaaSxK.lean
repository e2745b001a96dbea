/-
  Sx, part K: soundness of all operations that make or turn blocks. Own words; no condition.
-/
import Derived.Test.YtfefdjomenfchaaSxJ
namespace Go.Sx
open Go
variable {P : Program} {ty : TypeId → Option TD}

/-- A mark behind a block's last cell freezes nothing. -/
theorem RelH.stringish {ι : List Place} {h : Heap} {w : World} (R : RelH ι h w) {b n : Nat} {c : Array Value} {e : TypeId} (hb : w.heap[b]? = some (.cells c e (0, 0))) (hn : c.size ≤ n) :
    RelH ι h (w.freeze ⟨b, n, none⟩ 1) ∧ ∀ ι₀ h₀ w₀, Grow ι₀ h₀ w₀ ι h w → w₀.heap.size ≤ b → Grow ι₀ h₀ w₀ ι h (w.freeze ⟨b, n, none⟩ 1) := by
  have hheap : ∀ k, k ≠ b → (w.freeze ⟨b, n, none⟩ 1).heap[k]? = w.heap[k]? := by
    intro k hk
    simp only [World.freeze, Nat.one_ne_zero, if_false, Array.getElem?_modify]
    rw [if_neg (fun e => hk e.symm)]
  have hself : (w.freeze ⟨b, n, none⟩ 1).heap[b]? = some (.cells c e (n, n + 1)) := by
    simp [World.freeze, Array.getElem?_modify, hb]
  have hsize : (w.freeze ⟨b, n, none⟩ 1).heap.size = w.heap.size := by simp [World.freeze]
  have hcell : ∀ a : Addr, (w.freeze ⟨b, n, none⟩ 1).cell? a = w.cell? a := by
    intro a
    by_cases hab : a.block = b
    · simp [World.cell?, hab, hself, hb]
    · simp [World.cell?, hheap _ hab]
  refine ⟨⟨R.len, ?_, R.apart⟩, ?_⟩
  · intro i bl hi
    obtain ⟨p, hp, r⟩ := R.blk i bl hi
    refine ⟨p, hp, ?_⟩
    cases bl with
    | cells cs o u =>
      obtain ⟨h1, h2, h3⟩ := r
      refine ⟨fun k x hx => by rw [hcell]; exact h1 k x hx, by rw [hsize]; exact h2, fun ho => ?_⟩
      obtain ⟨a1, a2, a3⟩ := h3 ho
      refine ⟨a1, a2, fun k hk => ?_⟩
      rw [hcell]
      refine ⟨(a3 k hk).1, ?_⟩
      by_cases hpb : p.block = b
      · obtain ⟨⟨y, hy⟩, _⟩ := a3 k hk
        have hlt : p.off + k < c.size := by
          simp only [World.cell?, hpb, hb] at hy
          simp at hy
          exact (Array.getElem?_eq_some_iff.1 hy).1
        simp only [World.frozen?, hpb, hself]
        simp
        omega
      · simp only [World.frozen?, hheap _ hpb]
        exact (a3 k hk).2
    | void u => exact r
    | map es c' =>
      obtain ⟨es', h1, h2⟩ := r
      refine ⟨es', ?_, h2⟩
      by_cases hpb : p.block = b
      · rw [hpb, hb] at h1; simp at h1
      · rw [hheap _ hpb]; exact h1
  · intro ι₀ h₀ w₀ g hle
    exact ⟨g.pre, g.os, g.tape, g.output, by rw [hsize]; exact g.size, fun k hk hno => by rw [hheap k (by omega)]; exact g.keep k hk hno, g.own⟩
/-- A block of one's own that is lent: a mark behind it freezes what nobody writes. -/
theorem RelH.lend {ι : List Place} {h h' : Heap} {w : World} (R : RelH ι h w) {i : Nat} {p : Place} (hp : ι[i]? = some p) (hl : lendC h i = some h') (n m : Nat) :
    RelH ι h' (w.freeze ⟨p.block, n, none⟩ m) ∧ Grow ι h w ι h' (w.freeze ⟨p.block, n, none⟩ m) := by
  unfold lendC at hl
  split at hl
  · rename_i cs u hg
    simp only [Option.some.injEq] at hl
    subst hl
    by_cases hm : m = 0
    · subst hm
      have e : w.freeze ⟨p.block, n, none⟩ 0 = w := by simp [World.freeze]
      rw [e]
      refine ⟨⟨by simpa using R.len, ?_, ?_⟩, ?_⟩
      · intro j bl hj
        rw [hget_set] at hj
        split at hj
        · rename_i hij
          obtain ⟨rfl, _⟩ := hij
          cases hj
          obtain ⟨q, hq, r⟩ := R.blk i _ hg
          exact ⟨q, hq, r.1, r.2.1, fun h => by cases h⟩
        · exact R.blk j bl hj
      · intro j j' b c p q h1 h2 h3 hsd h4 h5 h6
        rw [hget_set] at h1 h3
        split at h1
        · cases h1; cases h2
        · split at h3
          · rename_i hij; obtain ⟨rfl, _⟩ := hij
            exact R.apart j i b _ p q h1 h2 hg rfl h4 h5 h6
          · exact R.apart j j' b c p q h1 h2 h3 hsd h4 h5 h6
      · refine ⟨List.prefix_refl _, rfl, rfl, rfl, Nat.le_refl _, fun _ _ _ => rfl, fun j c q h1 h2 h3 => ?_⟩
        rw [hget_set] at h1
        split at h1
        · cases h1; cases h2
        · exact .inl ⟨j, c, q, h1, h2, h3, rfl⟩
    have hheap : ∀ k, k ≠ p.block → (w.freeze ⟨p.block, n, none⟩ m).heap[k]? = w.heap[k]? := by
      intro k hk
      simp only [World.freeze, hm, if_false, Array.getElem?_modify]
      rw [if_neg (fun e => hk e.symm)]
    have hsize : (w.freeze ⟨p.block, n, none⟩ m).heap.size = w.heap.size := by simp [World.freeze, hm]
    have hcell : ∀ a : Addr, (w.freeze ⟨p.block, n, none⟩ m).cell? a = w.cell? a := by
      intro a
      by_cases hab : a.block = p.block
      · simp only [World.cell?, World.freeze, hm, if_false, Array.getElem?_modify, hab, if_true]
        cases w.heap[p.block]? with
        | none => rfl
        | some o => cases o <;> rfl
      · simp [World.cell?, hheap _ hab]
    refine ⟨⟨by simpa using R.len, ?_, ?_⟩, ?_⟩
    · intro j bl hj
      rw [hget_set] at hj
      split at hj
      · rename_i hij
        obtain ⟨rfl, _⟩ := hij
        cases hj
        obtain ⟨q, hq, r⟩ := R.blk i _ hg
        exact ⟨q, hq, fun k x hx => by rw [hcell]; exact r.1 k x hx, by rw [hsize]; exact r.2.1, fun h => by cases h⟩
      · rename_i hij
        have hne : i ≠ j := by
          rintro rfl
          exact hij ⟨rfl, hget_lt hg⟩
        obtain ⟨q, hq, r⟩ := R.blk j bl hj
        refine ⟨q, hq, ?_⟩
        cases bl with
        | void u => exact r
        | cells cs' o' u' =>
          have hap := R.apart i j _ _ p q hg rfl hj rfl hne hp hq
          obtain ⟨r1, r2, r3⟩ := r
          refine ⟨fun k x hx => by rw [hcell]; exact r1 k x hx, by rw [hsize]; exact r2, fun ho => ?_⟩
          obtain ⟨a1, a2, a3⟩ := r3 ho
          refine ⟨a1, a2, fun k hk => ?_⟩
          rw [hcell]
          refine ⟨(a3 k hk).1, ?_⟩
          simp only [World.frozen?, hheap _ (fun e => hap e.symm)]
          exact (a3 k hk).2
        | map es c' =>
          have hap := R.apart i j _ _ p q hg rfl hj rfl hne hp hq
          obtain ⟨es', e1, e2⟩ := r
          exact ⟨es', by rw [hheap _ (fun e => hap e.symm)]; exact e1, e2⟩
    · intro j j' b c p' q h1 h2 h3 hsd h4 h5 h6
      rw [hget_set] at h1 h3
      split at h1
      · cases h1; cases h2
      · split at h3
        · rename_i hij; obtain ⟨rfl, _⟩ := hij
          exact R.apart j i b _ p' q h1 h2 hg rfl h4 h5 h6
        · exact R.apart j j' b c p' q h1 h2 h3 hsd h4 h5 h6
    · refine ⟨List.prefix_refl _, by simp [World.freeze, hm], by simp [World.freeze, hm], by simp [World.freeze, hm], by rw [hsize]; exact Nat.le_refl _, fun b hb hno => hheap b (fun e => hno i _ p hg rfl hp e.symm), fun j c q h1 h2 h3 => ?_⟩
      rw [hget_set] at h1
      split at h1
      · cases h1; cases h2
      · exact .inl ⟨j, c, q, h1, h2, h3, rfl⟩
  · simp at hl
theorem does_bytes {ι : List Place} {h : Heap} {w : World} (R : RelH ι h w) (b : ByteArray) (e : TypeId) :
    ∃ z κ w', (Conv.stringToBytes e b).run P w = .ok z w' ∧ VR κ (.slice (some ⟨h.length, 0, none⟩) b.size OPEN) z ∧ RelH κ (h ++ [some (.cells (b.data.toList.map fun c => Value.int .u8 c.toNat) true 1)]) w' ∧ Grow ι h w κ (h ++ [some (.cells (b.data.toList.map fun c => Value.int .u8 c.toNat) true 1)]) w' := by
  obtain ⟨nc, hnc, hge⟩ : ∃ nc : Nat, (choose (.appendCap b.size 0 e)).run P w = .ok nc { w with drawn := w.drawn + 1 } ∧ b.size ≤ nc := ⟨_, rfl, Nat.le_add_right _ _⟩
  have R' := R.drew (w.drawn + 1)
  obtain ⟨c, hc⟩ : ∃ c : Array Value, c = (b.data.map fun b => Value.int .u8 (b.toNat : Int)) ++ Array.replicate (nc - b.size) (.int .u8 0) := ⟨_, rfl⟩
  have hsz : c.size = nc := by
    rw [hc, Array.size_append]
    have : b.data.size = b.size := rfl
    simp; omega
  have hbl : (b.data.toList.map fun c => Value.int .u8 (c.toNat : Int)).length = b.size := by simp
  obtain ⟨r1, r2⟩ := R'.new (c := c) (e := e) (cs := b.data.toList.map fun c => Value.int .u8 (c.toNat : Int)) (by
    have e1 : c.toList.take (b.data.toList.map fun c => Value.int .u8 (c.toNat : Int)).length = b.data.toList.map fun c => Value.int .u8 (c.toNat : Int) := by
      rw [hc, Array.toList_append, List.take_append_of_le_length (by simp), List.take_of_length_le (by simp)]; simp
    rw [e1]; exact VRs.closed (by simp [closed1])) (room := nc) (by rw [hbl]; exact hge) (by omega) 1
  have hb : ({ w with drawn := w.drawn + 1 }.alloc (.cells c e)).heap[w.heap.size]? = some (.cells c e (0, 0)) := by simp [World.alloc]
  obtain ⟨s1, s2⟩ := r1.stringish hb (n := c.size) (Nat.le_refl _)
  refine ⟨.slice (some ⟨w.heap.size, 0, none⟩) b.size nc, _, _, ?_, ?_, s1, s2 _ _ _ ((Grow.drew _).trans r2) (Nat.le_refl _)⟩
  · have hsh : ({ w with drawn := w.drawn + 1 }.alloc (.cells c e)).shape? w.heap.size = some (e, c.size) := by simp only [World.shape?]; rw [hb]
    simp only [Conv.stringToBytes, Sem.run_bind, hnc, Result.andThen_ok, newRow, run_newObj, Sem.run_pure, markStringish, run_shape, ← hc]
    have hw : ({ w with drawn := w.drawn + 1, heap := w.heap.push (.cells c e) } : World) = { w with drawn := w.drawn + 1 }.alloc (.cells c e) := rfl
    rw [hw, hsh]
    simp
  · have := VR.sliceO (ι := ι ++ [⟨w.heap.size, 0, nc, 1⟩]) h.length 0 b.size nc ⟨w.heap.size, 0, nc, 1⟩ (new_place ι h R.len _) hge (by simp)
    simpa using this
theorem zero_if {w : World} {e : TypeId} {z : Value} (hz : (Go.zeroValue e).run P w = .ok z w) (m : Nat) {α : Type} (K : Array Value → Sem α) :
    ((if m = 0 then (do let zero ← pure #[]; K zero) else (do let l ← Go.zeroValue e; let zero ← pure l.cells; K zero) : Sem α)).run P w = (K (if m = 0 then #[] else z.cells)).run P w := by
  by_cases h : m = 0
  · simp [h]
  · simp [h, hz]
theorem two_args {ι : List Place} {x y : Value} {r zs : List Value} (h : VRs ι (x :: y :: r) zs) : ∃ x' y' r', zs = x' :: y' :: r' ∧ VR ι x x' ∧ VR ι y y' := by
  match zs, h with
  | x' :: y' :: r', ⟨a, b, _⟩ => exact ⟨x', y', r', rfl, a, b⟩
/-- All operations that make or turn blocks. -/
theorem semA_sound (T : TyOk P ty) {ι : List Place} {tm : List (Nat × Ent)} {N : Nat} {a : Act} {h : Heap} {w : World} (R : RelT ι tm N a) (H : RelH ι h w) (o : Oper) {v : Value} {h' : Heap} (hs : semA ty o.op tm h = some (v, h')) :
    Does P ι h w (execOp a.eval o) v h' := by
  obtain ⟨dst, op, type, pos, after, guard⟩ := o
  cases op <;> simp only [semA, reduceCtorEq] at hs
  case alloc t =>
    simp only [Option.map_eq_some_iff, Prod.mk.injEq] at hs
    obtain ⟨d, hd, rfl, rfl⟩ := hs
    obtain ⟨z, hz, hzc⟩ := T.zeroValue hd w
    obtain ⟨κ, q1, q2, q3, q4⟩ := does_newRow (P := P) H (cs := d.zero) (c := z.cells) (by rw [hzc]; exact zero_VRs T hd) t 0
    refine ⟨.value (.pointer (some ⟨w.heap.size, 0, none⟩)), _, κ, _, ?_, .inl rfl, ?_, q3, q4⟩
    · simp only [execOp, Instr.alloc, newVar, Sem.run_bind, hz, Result.andThen_ok, q1, Sem.run_pure]
    · have := VR.ptr (ι := κ) h.length 0 _ q2; simpa using this
  case box t x =>
    simp only [Option.map_eq_some_iff, Prod.mk.injEq] at hs
    obtain ⟨xv, hx, rfl, rfl⟩ := hs
    obtain ⟨κ, q1, q2, q3, q4⟩ := does_newRow (P := P) H (R.ev rfl hx).cells t 0
    refine ⟨.value (.pointer (some ⟨w.heap.size, 0, none⟩)), _, κ, _, ?_, .inl rfl, ?_, q3, q4⟩
    · simp only [execOp, Instr.box, newVar, Sem.run_bind, Result.andThen_ok, q1, Sem.run_pure]
    · have := VR.ptr (ι := κ) h.length 0 _ q2; simpa using this
  case buildSlice t n ps =>
    simp only [Option.bind_eq_some_iff] at hs
    obtain ⟨d, hd, hs⟩ := hs
    have hu := T.underlying hd w
    split at hs
    · rename_i e hk
      rw [hk] at hu
      simp only [Option.bind_eq_some_iff, Option.ite_none_right_eq_some, Option.map_eq_some_iff, Prod.mk.injEq] at hs
      obtain ⟨d', hd', l, hl, ⟨h1, h2⟩, cs, hcs, rfl, rfl⟩ := hs
      obtain ⟨z, hz, hzc⟩ := T.zeroValue hd' w
      obtain ⟨_, _, _, _, _, _, _, hzl, hzcl⟩ := T.inf e d' hd'
      have hzs : z.cells.size = d'.size := by rw [← hzl, ← hzc]; simp
      have r0 := R.evps (γ := true) rfl hl
      -- the zero cells
      have hzero : ∃ z0 : Array Value, (if n * d'.size = 0 then #[] else z.cells) = z0 ∧ ((Array.range (n * d'.size)).map (fun i => z0[i % z0.size]!)).toList = zerosN d'.zero n := by
        by_cases h0 : n * d'.size = 0
        · refine ⟨#[], if_pos h0, ?_⟩
          have : (zerosN d'.zero n).length = 0 := by rw [zerosN_length, hzl]; exact h0
          rw [h0]; simp
          exact List.eq_nil_of_length_eq_zero this
        · refine ⟨z.cells, if_neg h0, ?_⟩
          rw [← hzc, ← hzs]; exact zero_row z.cells n
      obtain ⟨z0, hz0, hz1⟩ := hzero
      obtain ⟨l', hl', hr'⟩ := fill_sound (place' := fun i => some (i * d'.size, d'.size)) (fun i q hq => hq) r0 (cs' := (Array.range (n * d'.size)).map (fun i => z0[i % z0.size]!)) (by rw [hz1]; exact VRs.closed (zerosN_closed hzcl n)) hcs
      obtain ⟨κ, q1, q2, q3, q4⟩ := does_newRow (P := P) H hr' e 0
      have eps : ((ps.map fun (i, x) => (i, a.eval x))).toList = List.map (fun p : Nat × Operand => (p.fst, a.eval p.snd)) ps.toList := by simp
      refine ⟨.value (.slice (some ⟨w.heap.size, 0, none⟩) n n), _, κ, _, ?_, .inl rfl, ?_, q3, q4⟩
      · simp only [execOp, Instr.buildSlice, Sem.run_bind, hu, Result.andThen_ok, T.sizeOf hd', eps]
        rw [if_neg (by omega), zero_if hz, hz0]
        simp only [Result.andThen_ok, hl', Sem.run_bind, q1, Sem.run_pure]
      · have := VR.slice (ι := κ) h.length 0 n n _ q2 (by unfold OPEN; omega); simpa using this
    · simp at hs
  case makeSlice t lo co =>
    simp only [Option.bind_eq_some_iff] at hs
    obtain ⟨d, hd, hs⟩ := hs
    have hu := T.underlying hd w
    split at hs
    · rename_i e hk
      rw [hk] at hu
      simp only [Option.bind_eq_some_iff] at hs
      obtain ⟨d', hd', lv, hl, cv, hc, hs⟩ := hs
      split at hs
      · rename_i k1 n
        split at hs
        · rename_i k2 m
          simp only [Option.ite_none_right_eq_some, Option.some.injEq, Prod.mk.injEq] at hs
          obtain ⟨⟨h0, rfl, h1, h2⟩, rfl, rfl⟩ := hs
          have el := (R.ev rfl hl).int_inv
          have ec := (R.ev rfl hc).int_inv
          obtain ⟨inf, zv, hi, hi1, hi2, hi3, hi4⟩ := T.typeInfo hd' w
          obtain ⟨z, hz, hzc⟩ := T.zeroValue hd' w
          obtain ⟨_, _, _, _, _, _, _, hzl, hzcl⟩ := T.inf e d' hd'
          have hzs : z.cells.size = d'.size := by rw [← hzl, ← hzc]; simp
          have hw : IntKind.i64.wrap n = n := by simp only [IntKind.wrap, IntKind.bits, IntKind.signed]; simp; omega
          have hzero : ∃ z0 : Array Value, (if n.toNat * d'.size = 0 then #[] else z.cells) = z0 ∧ ((Array.range (n.toNat * d'.size)).map (fun i => z0[i % z0.size]!)).toList = zerosN d'.zero n.toNat := by
            by_cases hn0 : n.toNat * d'.size = 0
            · refine ⟨#[], if_pos hn0, ?_⟩
              have : (zerosN d'.zero n.toNat).length = 0 := by rw [zerosN_length, hzl]; exact hn0
              rw [hn0]; simp
              exact List.eq_nil_of_length_eq_zero this
            · refine ⟨z.cells, if_neg hn0, ?_⟩
              rw [← hzc, ← hzs]; exact zero_row z.cells n.toNat
          obtain ⟨z0, hz0, hz1⟩ := hzero
          obtain ⟨κ, q1, q2, q3, q4⟩ := does_newRow (P := P) H (cs := zerosN d'.zero n.toNat) (c := (Array.range (n.toNat * d'.size)).map (fun i => z0[i % z0.size]!)) (by rw [hz1]; exact VRs.closed (zerosN_closed hzcl n.toNat)) e 0
          refine ⟨.value (.slice (some ⟨w.heap.size, 0, none⟩) n.toNat n.toNat), _, κ, _, ?_, .inl rfl, ?_, q3, q4⟩
          · have hbig : ¬ ((decide (n < 0) || decide ((inf.bytes : Int) * n > 2 ^ 48)) = true ∨ n < 0 ∨ n > n) := by
              rw [hi2, Int.mul_comm]
              simp; omega
            simp only [execOp, Instr.makeSlice, Sem.run_bind, hu, Result.andThen_ok, el, ec, asInt, asIntOf, Sem.run_pure, hi, hw]
            rw [if_neg (by simpa using hbig)]
            simp only [Sem.run_bind, run_askRoom, Result.andThen_ok, T.sizeOf hd']
            rw [zero_if hz, hz0]
            simp only [Sem.run_bind, Result.andThen_ok, q1, Sem.run_pure]
          · have := VR.slice (ι := κ) h.length 0 n.toNat n.toNat _ q2 (by unfold OPEN; omega); simpa using this
        · simp at hs
      · simp at hs
    · simp at hs
  case convert src t x =>
    simp only [Option.bind_eq_some_iff] at hs
    obtain ⟨ds, hds, d, hd, hs⟩ := hs
    have hu := T.underlying hd w
    split at hs
    · rename_i e hk
      rw [hk] at hu
      simp only [Option.bind_eq_some_iff] at hs
      obtain ⟨d', hd', hs⟩ := hs
      have hue := T.underlying hd' w
      split at hs
      · rename_i hk8
        rw [hk8] at hue
        simp only [Option.bind_eq_some_iff] at hs
        obtain ⟨xv, hx, hs⟩ := hs
        split at hs
        · rename_i b
          simp at hs; obtain ⟨rfl, rfl⟩ := hs
          have ex := (R.ev rfl hx).string_inv
          obtain ⟨z, κ, w', q1, q2, q3, q4⟩ := does_bytes (P := P) H b e
          refine ⟨.value z, z, κ, w', ?_, .inl rfl, q2, q3, q4⟩
          simp only [execOp, Go.convert, Sem.run_bind, hu, T.underlying hds w, Result.andThen_ok, ex, hue, q1, Sem.run_pure]
        · rename_i i k n c
          simp only [Option.ite_none_right_eq_some, Option.map_eq_some_iff, Prod.mk.injEq] at hs
          obtain ⟨⟨rfl, hn0⟩, g, hl, rfl, rfl⟩ := hs
          have hv := R.ev (γ := true) rfl hx
          have key : ∀ (q : Place) (o c' : Nat), ι[i]? = some q → a.eval x = .slice (some ⟨q.block, o, none⟩) n c' → Does P ι h w (execOp a.eval ⟨dst, .convert src src x, type, pos, after, guard⟩) (.slice (some ⟨i, k, none⟩) n c) g := by
            intro q o c' hq he
            rw [he] at hv
            have hus := T.underlying hds w
            rw [hd] at hds
            simp only [Option.some.injEq] at hds
            subst hds
            cases hsh : w.shape? q.block with
            | none =>
              obtain ⟨r1, r2⟩ := H.lend hq hl 0 0
              have e0 : w.freeze ⟨q.block, 0, none⟩ 0 = w := by simp [World.freeze]
              rw [e0] at r1 r2
              refine ⟨.value _, _, ι, w, ?_, .inl rfl, hv, r1, r2⟩
              simp only [execOp, Go.convert, Sem.run_bind, hu, Result.andThen_ok, he, hue, beq_self_eq_true, markStringish, run_shape, hsh, Sem.run_pure]
            | some s =>
              obtain ⟨s1, s2⟩ := s
              obtain ⟨r1, r2⟩ := H.lend hq hl s2 1
              refine ⟨.value _, _, ι, _, ?_, .inl rfl, hv, r1, r2⟩
              simp only [execOp, Go.convert, Sem.run_bind, hu, Result.andThen_ok, he, hue, beq_self_eq_true, markStringish, run_shape, hsh, Sem.run_pure]
              rfl
          rcases hv.slice_inv with ⟨i', k', q, he, hq, _, hy⟩ | ⟨i', k', q, c', he, _, hq, _, _, hy⟩ | ⟨b', _, rfl, _⟩ | ⟨_, rfl, _⟩
          · cases he
            exact key q _ _ hq hy
          · cases he
            exact key q _ _ hq hy
          · exact absurd rfl hn0
          · exact absurd rfl hn0
        · simp at hs
      · simp at hs
    · simp at hs
  case store t x y =>
    simp only [Option.bind_eq_some_iff, Option.map_eq_some_iff, Prod.mk.injEq] at hs
    obtain ⟨d, hd, xv, hx, yv, hy, h2, hst, rfl, rfl⟩ := hs
    obtain ⟨w', q1, q2, q3⟩ := does_store T H hd hst (R.ev rfl hx) (R.ev rfl hy)
    exact ⟨.skip, undef, ι, w', by simp [execOp, q1], .inr ⟨rfl, rfl⟩, undef_VR, q2, q3⟩
  case call c =>
    obtain ⟨cl, args, ats⟩ := c
    simp only at hs
    split at hs
    · -- append
      simp only [Option.bind_eq_some_iff] at hs
      obtain ⟨t0, hat, d0, ht0, hs⟩ := hs
      split at hs
      · rename_i e hk
        simp only [Option.bind_eq_some_iff] at hs
        obtain ⟨d, hd, l, hl, hs⟩ := hs
        have r := R.evs (γ := true) rfl hl
        split at hs
        · rename_i x y rest
          obtain ⟨x', y', r', he, hx, hy⟩ := two_args r
          split at hs
          · rename_i t1 hat1
            simp only [Option.bind_eq_some_iff] at hs
            obtain ⟨d1, ht1, hs⟩ := hs
            split at hs
            · simp at hs
            · rename_i hni
              simp only [Option.bind_eq_some_iff] at hs
              obtain ⟨ny, hny, hs⟩ := hs
              split at hs
              · rename_i k ni
                simp only [Option.bind_eq_some_iff, Option.ite_none_right_eq_some] at hs
                obtain ⟨row, hrow, hrl, hs⟩ := hs
                obtain ⟨n, rfl⟩ := lenC_nat hny
                simp only [Int.toNat_natCast] at hrl hs
                obtain ⟨z, κ, w', q1, q2, q3, q4⟩ := does_append T H ht0 hk hd ht1 (fun k hk' => hni k hk') hat hat1 (rest := r') hny hrow hrl hs hx hy type
                refine ⟨.value z, z, κ, w', ?_, .inl rfl, q2, q3, q4⟩
                have ea : args.map a.eval = (x' :: y' :: r').toArray := by apply Array.ext'; simp [he]
                simp only [execOp, resolve, invoke, builtin, Sem.run_bind, Sem.run_pure, Result.andThen_ok, ea, q1]
              · simp at hs
          · simp at hs
        · simp at hs
      · simp at hs
    · -- copy
      simp only [Option.bind_eq_some_iff] at hs
      obtain ⟨t0, hat, d0, ht0, hs⟩ := hs
      split at hs
      · rename_i e hk
        simp only [Option.bind_eq_some_iff] at hs
        obtain ⟨d, hd, l, hl, hs⟩ := hs
        have r := R.evs (γ := true) rfl hl
        split at hs
        · rename_i x y rest
          obtain ⟨x', y', r', he, hx, hy⟩ := two_args r
          obtain ⟨w', q1, q2, q3, q4⟩ := does_copy T H ht0 hk hd hat (rest := r') hs hx hy type
          refine ⟨.value v, v, ι, w', ?_, .inl rfl, .same _ q2, q3, q4⟩
          have ea : args.map a.eval = (x' :: y' :: r').toArray := by apply Array.ext'; simp [he]
          simp only [execOp, resolve, invoke, builtin, Sem.run_bind, Sem.run_pure, Result.andThen_ok, ea, q1]
        · simp at hs
      · simp at hs
    · simp at hs
end Go.Sx
