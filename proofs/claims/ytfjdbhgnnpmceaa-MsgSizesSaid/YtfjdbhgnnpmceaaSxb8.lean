/-
  Walks by Sx; no condition beyond those that stand in each statement.
-/
import Derived.Test.YtfjdbhgnnpmceaaSxb7
import Derived.OpenShut
import Derived.ChangeArms
import Derived.LoopN
section
/-
  Sx, part O: what an argument is, after its type: cells over blocks that are only read. Own words; no condition.
-/
namespace Go.Sx
open Go Go.RowKit
variable {P : Program}
/-- What cells of a type are, over a heap: f steps deep at most. -/
def Typ (P : Program) (h : Heap) : Nat → TypeId → List Value → Prop
  | 0, _, _ => False
  | f + 1, t, cs =>
    match P.underlying t with
    | some .bool => ∃ b, cs = [.bool b]
    | some (.int k) => ∃ n, cs = [.int k n] ∧ (Lit.int k n).wf = true
    | some .string => ∃ s, cs = [.string s] ∧ s.size ≤ maxLen
    | some (.slice e) => cs = [.slice none 0 0] ∨ ∃ i len cap l, cs = [.slice (some ⟨i, 0, none⟩) len cap] ∧ len ≤ cap ∧ cap ≤ maxLen ∧ hget h i = some (.cells l false 0) ∧ l.length = cap * P.cellsOf e ∧
        ∀ j, j < cap → Typ P h f e ((l.drop (j * P.cellsOf e)).take (P.cellsOf e))
    | some (.struct fs) => cs.length = P.cellsOf t ∧ ∀ (j : Nat) (fd : Field), fs[j]? = some fd → Typ P h f fd.type ((cs.drop fd.offset).take (P.cellsOf fd.type))
    | some (.array n e) => cs.length = P.cellsOf t ∧ ∀ j, j < n → Typ P h f e ((cs.drop (j * P.cellsOf e)).take (P.cellsOf e))
    | _ => False
/-- Parts (of a type, from a cell on) that stand one behind the other. -/
def tilesB (P : Program) (tot : Nat) : Nat → List (TypeId × Nat) → Bool
  | off, [] => off == tot
  | off, (t, o) :: r => o == off && tilesB P tot (off + P.cellsOf t) r
def fparts (fs : Array Field) : List (TypeId × Nat) := fs.toList.map fun (f : Field) => (f.type, f.offset)
def aparts (P : Program) (e : TypeId) (n : Nat) : List (TypeId × Nat) := (List.range n).map fun j => (e, j * P.cellsOf e)
/-- Types of which cells are told so: f steps deep. -/
def plainT (P : Program) : Nat → TypeId → Bool
  | 0, _ => false
  | f + 1, t =>
    match P.underlying t with
    | some .bool => true
    | some (.int _) => true
    | some .string => true
    | some (.slice e) => decide (0 < P.cellsOf e) && plainT P f e
    | some (.struct fs) => tilesB P (P.cellsOf t) 0 (fparts fs) && (fparts fs).all fun p => plainT P f p.1
    | some (.array n e) => P.cellsOf t == n * P.cellsOf e && plainT P f e
    | _ => false
/-- Blocks that are only read. -/
def ReadOnly (ι : List Place) (h : Heap) (w : World) : Prop := ι.length = h.length ∧ ∀ i b, hget h i = some b → owns b = false ∧ ∃ p, ι[i]? = some p ∧ BlkR ι w p b
theorem Typ.mono {h h' : Heap} (a : Agree h h') : ∀ {f : Nat} {t : TypeId} {cs : List Value}, Typ P h f t cs → Typ P h' f t cs
  | 0, _, _, q => q
  | f + 1, t, cs, q => by
    unfold Typ at *
    split at q
    · exact q
    · exact q
    · exact q
    · rcases q with q | ⟨i, len, cap, l, h1, h2, h3, h4, h5, h6⟩
      · exact .inl q
      · exact .inr ⟨i, len, cap, l, h1, h2, h3, a i _ h4, h5, fun j hj => Typ.mono a (h6 j hj)⟩
    · exact ⟨q.1, fun j fd hf => Typ.mono a (q.2 j fd hf)⟩
    · exact ⟨q.1, fun j hj => Typ.mono a (q.2 j hj)⟩
    · exact q
/-- How far a heap of such blocks has come. -/
structure More (ι : List Place) (h : Heap) (κ : List Place) (h' : Heap) : Prop where
  pre : ι <+: κ
  agree : Agree h h'
  len : h.length ≤ h'.length
theorem More.refl (ι : List Place) (h : Heap) : More ι h ι h := ⟨List.prefix_refl _, Agree.refl _, Nat.le_refl _⟩
theorem More.trans {a b c : List Place} {x y z : Heap} (p : More a x b y) (q : More b y c z) : More a x c z := ⟨p.pre.trans q.pre, p.agree.trans q.agree, Nat.le_trans p.len q.len⟩
theorem BlkR.mono' {ι κ : List Place} (h : ι <+: κ) {w : World} {p : Place} {b : Blk} (r : BlkR ι w p b) : BlkR κ w p b := by
  cases b with
  | cells cs o u =>
    obtain ⟨h1, h2, h3⟩ := r
    exact ⟨fun k x hx => let ⟨y, hy, hv⟩ := h1 k x hx; ⟨y, hy, hv.mono h⟩, h2, h3⟩
  | void u => exact r
  | map es c =>
    obtain ⟨es', h1, h2⟩ := r
    exact ⟨es', h1, h2.mono h⟩
theorem VRs.parts {ι : List Place} {n z : Nat} : ∀ {xs ys : List Value}, xs.length = n * z → ys.length = n * z → (∀ j, j < n → VRs ι ((xs.drop (j * z)).take z) ((ys.drop (j * z)).take z)) → VRs ι xs ys := by
  induction n with
  | zero =>
    intro xs ys h1 h2 _
    rw [Nat.zero_mul] at h1 h2
    rw [List.eq_nil_of_length_eq_zero h1, List.eq_nil_of_length_eq_zero h2]; trivial
  | succ n ih =>
    intro xs ys h1 h2 h
    have e1 : xs = xs.take z ++ xs.drop z := (List.take_append_drop z xs).symm
    have e2 : ys = ys.take z ++ ys.drop z := (List.take_append_drop z ys).symm
    rw [e1, e2]
    rw [Nat.succ_mul] at h1 h2
    refine VRs.append (by simpa using h 0 (by omega)) (ih (by simp; omega) (by simp; omega) fun j hj => ?_)
    have := h (j + 1) (by omega)
    rw [List.drop_drop, List.drop_drop, show z + j * z = (j + 1) * z by rw [Nat.succ_mul]; omega]
    exact this
/-- Elements of one size, laid in a row. -/
theorem row_of {z n : Nat} {xss : List (List Value)} (hl : xss.length = n) (hz : ∀ xs ∈ xss, xs.length = z) : xss.flatten.length = n * z ∧ ∀ j xs, xss[j]? = some xs → (xss.flatten.drop (j * z)).take z = xs := by
  induction xss generalizing n with
  | nil => simp at hl; subst hl; simp
  | cons x r ih =>
    have hx : x.length = z := hz x (by simp)
    obtain ⟨h1, h2⟩ := ih (n := r.length) rfl fun xs hxs => hz xs (by simp [hxs])
    simp at hl; subst hl
    refine ⟨by simp [h1, hx, Nat.succ_mul]; omega, fun j xs hj => ?_⟩
    cases j with
    | zero => simp at hj; subst hj; simp [← hx]
    | succ j =>
      simp at hj
      rw [List.flatten_cons, List.drop_append, List.drop_eq_nil_of_le (by rw [Nat.succ_mul]; omega), List.nil_append, show (j + 1) * z - x.length = j * z by rw [Nat.succ_mul]; omega]
      exact h2 j xs hj
theorem cells_all {w : World} {a : Addr} {n : Nat} {l : List Value} (h : w.cells? 0 a n = some l) : l.length = n ∧ ∀ i v, l[i]? = some v → w.cell? (a.add i) = some v := by
  unfold World.cells? at h
  rw [if_pos (Nat.zero_le _)] at h
  refine ⟨by simpa using mapM_some_length h, fun i v hv => ?_⟩
  have hlen : l.length = n := by simpa using mapM_some_length h
  have hi : i < n := by rw [← hlen]; exact (List.getElem?_eq_some_iff.1 hv).1
  rw [mapM_some_get h i i (by simp [hi])]; exact hv

theorem addr_add' (a : Addr) (i k : Nat) : (a.add i).add k = a.add (i + k) := by
  unfold Addr.add
  by_cases hi : i = 0
  · subst hi; simp
  · by_cases hk : k = 0
    · subst hk; simp
    · rw [if_neg hk, if_neg hi, if_neg (by omega)]
      simp only [Addr.mk.injEq, and_true, true_and]; omega
theorem tilesB_le {tot : Nat} : ∀ {ps : List (TypeId × Nat)} {off : Nat}, tilesB P tot off ps = true → off ≤ tot
  | [], off, h => by simp [tilesB] at h; omega
  | (t, o) :: r, off, h => by
    simp only [tilesB, Bool.and_eq_true] at h
    have := tilesB_le h.2
    omega
theorem tile {κ : List Place} {cs : List Value} : ∀ (ps : List (TypeId × Nat)) (off : Nat) (xss : List (List Value)), tilesB P cs.length off ps = true → xss.length = ps.length →
    (∀ (j : Nat) xs p, xss[j]? = some xs → ps[j]? = some p → VRs κ xs ((cs.drop p.2).take (P.cellsOf p.1))) →
    VRs κ xss.flatten (cs.drop off) ∧ ∀ (j : Nat) xs p, xss[j]? = some xs → ps[j]? = some p → off ≤ p.2 ∧ (xss.flatten.drop (p.2 - off)).take (P.cellsOf p.1) = xs
  | [], off, xss, ht, hl, _ => by
    simp only [tilesB, beq_iff_eq] at ht
    have : xss = [] := List.eq_nil_of_length_eq_zero (by simpa using hl)
    subst this; subst ht
    exact ⟨by simp [VRs], fun j xs p hx => by simp at hx⟩
  | (t, o) :: r, off, xss, ht, hl, h => by
    simp only [tilesB, Bool.and_eq_true, beq_iff_eq] at ht
    obtain ⟨rfl, ht⟩ := ht
    cases xss with
    | nil => simp at hl
    | cons x xss =>
      have hle := tilesB_le ht
      have hx := h 0 x (t, o) rfl rfl
      have hxl : x.length = P.cellsOf t := by
        rw [hx.length, List.length_take, List.length_drop]; simp only; omega
      obtain ⟨h1, h2⟩ := tile r (o + P.cellsOf t) xss ht (by simpa using hl) fun j xs p a b => h (j + 1) xs p (by simpa using a) (by simpa using b)
      refine ⟨?_, fun j xs p a b => ?_⟩
      · rw [List.flatten_cons, ← List.take_append_drop (P.cellsOf t) (cs.drop o), List.drop_drop]
        exact VRs.append hx h1
      · cases j with
        | zero =>
          simp at a b; subst a; subst b
          refine ⟨Nat.le_refl _, ?_⟩
          simp only [Nat.sub_self, List.drop_zero, List.flatten_cons]
          rw [← hxl]; simp
        | succ j =>
          simp at a b
          obtain ⟨q1, q2⟩ := h2 j xs p a b
          refine ⟨by omega, ?_⟩
          rw [List.flatten_cons, List.drop_append, List.drop_eq_nil_of_le (by omega), List.nil_append, hxl, Nat.sub_sub]
          exact q2
theorem aparts_tile {e : TypeId} {n tot : Nat} (h : tot = n * P.cellsOf e) : tilesB P tot 0 (aparts P e n) = true := by
  have key : ∀ (k j : Nat), j + k = n → tilesB P tot (j * P.cellsOf e) ((List.range' j k).map fun j => (e, j * P.cellsOf e)) = true := by
    intro k
    induction k with
    | zero => intro j hj; obtain rfl : j = n := by omega
              simp [tilesB, h]
    | succ k ih =>
      intro j hj
      rw [List.range'_succ, List.map_cons]
      simp only [tilesB, Bool.and_eq_true, beq_self_eq_true, true_and]
      rw [← Nat.succ_mul]
      exact ih (j + 1) (by omega)
  have := key n 0 (by omega)
  rw [Nat.zero_mul] at this
  rw [aparts, List.range_eq_range']
  exact this
/-- Where there is a slice that is not nil, there is memory. -/
def HasMem (w : World) (cs : List Value) : Prop := (∃ a l n, Value.slice (some a) l n ∈ cs) → 0 < w.heap.size
theorem HasMem.sub {w : World} {cs l : List Value} (h : HasMem w cs) (q : ∀ x ∈ l, x ∈ cs) : HasMem w l := fun ⟨a, k, n, hm⟩ => h ⟨a, k, n, q _ hm⟩
theorem hasMem_cell {w : World} {r : Reach} {base : Nat} {t : TypeId} {a : Addr} {l n : Nat} (h : Cell.okWide P w r base t (.slice (some a) l n)) : 0 < w.heap.size := by
  have key : ∀ e, w.has P r base a e n → 0 < w.heap.size := by
    rintro e ⟨_, _, row, cells, hs, _⟩
    unfold World.shape? at hs
    split at hs
    · rename_i hx
      have := (Array.getElem?_eq_some_iff.1 hx).1
      omega
    · simp at hs
  unfold Cell.okWide at h
  split at h
  all_goals first | (rename_i hv; cases hv; done) | skip
  all_goals
    unfold Cell.ok at h
    split at h
  all_goals first | exact h.elim | (rename_i hv; cases hv; done) | skip
  all_goals
    rename_i hv
    cases hv
    exact key _ h.2.2
/-- Cells that are read as data, told by a heap of blocks that are only read. -/
theorem open_typ {H : Type} {enc : TypeId × Value → H} {w : World} : ∀ (m : Nat) {t : TypeId} {fuel : Nat} {cs : List Value} {x : DataW H × List MemPlace}, DataW.trod enc P w 0 (fun _ => true) true fuel t cs = some x → plainT P m t = true → HasMem w cs → ∀ ι h, ReadOnly ι h w →
    ∃ κ h' cs0, ReadOnly κ h' w ∧ More ι h κ h' ∧ VRs κ cs0 cs ∧ Typ P h' m t cs0 := by
  intro m
  induction m with
  | zero => intro t fuel cs x _ hp; simp [plainT] at hp
  | succ m ih =>
    intro t fuel cs x ht hp hz ι h R
    have built : ∀ (ps : List (TypeId × Nat)), (∀ (j : Nat) p, ps[j]? = some p → ∃ n y, DataW.trod enc P w 0 (fun _ => true) true n p.1 ((cs.drop p.2).take (P.cellsOf p.1)) = some y ∧ plainT P m p.1 = true) → ∀ ι h, ReadOnly ι h w →
        ∃ κ h', ∃ xss : List (List Value), ReadOnly κ h' w ∧ More ι h κ h' ∧ xss.length = ps.length ∧ ∀ (j : Nat) xs p, xss[j]? = some xs → ps[j]? = some p → VRs κ xs ((cs.drop p.2).take (P.cellsOf p.1)) ∧ Typ P h' m p.1 xs := by
      intro ps
      induction ps with
      | nil => intro _ ι h R; exact ⟨ι, h, [], R, .refl _ _, rfl, fun j xs p hx => by simp at hx⟩
      | cons p ps ihp =>
        intro he ι h R
        obtain ⟨n, y, hy, hpl⟩ := he 0 p rfl
        obtain ⟨κ, h1, xs, R1, m1, hv, htp⟩ := ih hy hpl (hz.sub fun x hx => List.mem_of_mem_drop (List.mem_of_mem_take hx)) ι h R
        obtain ⟨μ, h2, xss, R2, m2, hl2, hx⟩ := ihp (fun j q hj => he (j + 1) q (by simpa using hj)) κ h1 R1
        refine ⟨μ, h2, xs :: xss, R2, m1.trans m2, by simp [hl2], fun j ys q a b => ?_⟩
        cases j with
        | zero => simp at a b; subst a; subst b; exact ⟨hv.mono m2.pre, htp.mono m2.agree⟩
        | succ j => exact hx j ys q (by simpa using a) (by simpa using b)
    unfold plainT at hp
    split at hp
    · rename_i hu
      obtain ⟨b, rfl, _⟩ := DataW.trod_bool hu ht
      exact ⟨ι, h, [.bool b], R, .refl _ _, ⟨.same _ rfl, trivial⟩, by unfold Typ; rw [hu]; exact ⟨b, rfl⟩⟩
    · rename_i k hu
      obtain ⟨n, rfl, _, hw⟩ := DataW.trod_int hu ht
      exact ⟨ι, h, [.int k n], R, .refl _ _, ⟨.same _ rfl, trivial⟩, by unfold Typ; rw [hu]; exact ⟨n, rfl, hw⟩⟩
    · rename_i hu
      obtain ⟨s, rfl, _, hw⟩ := DataW.trod_string hu ht
      exact ⟨ι, h, [.string s], R, .refl _ _, ⟨.same _ rfl, trivial⟩, by unfold Typ; rw [hu]; exact ⟨s, rfl, hw⟩⟩
    · rename_i e hu
      rcases DataW.trod_slice hu ht with ⟨rfl, _⟩ | ⟨a, len, cap, elems, rest, n, _, rfl, _, _, hl, hm, hlen, hel, hsp, _⟩
      · exact ⟨ι, h, [.slice none 0 0], R, .refl _ _, ⟨.same _ rfl, trivial⟩, by unfold Typ; rw [hu]; exact .inl rfl⟩
      · obtain ⟨hrl, hr⟩ := hsp rfl
        have each : ∀ j, j < cap → ∃ l y, w.cells? 0 (a.add (j * P.cellsOf e)) (P.cellsOf e) = some l ∧ DataW.trod enc P w 0 (fun _ => true) true n e l = some y := by
          intro j hj
          have hy : ∃ y, (w.cells? 0 (a.add (j * P.cellsOf e)) (P.cellsOf e)).bind (DataW.trod enc P w 0 (fun _ => true) true n e) = some y := by
            by_cases hjl : j < len
            · rw [hel j hjl]; exact ⟨elems[j]'(by omega), by simp [hlen, hjl]⟩
            · have := hr (j - len) (by omega)
              rw [show len + (j - len) = j by omega] at this
              rw [this]
              exact ⟨rest[j - len]'(by omega), by simp⟩
          obtain ⟨y, hy⟩ := hy
          simp only [Option.bind_eq_some_iff] at hy
          obtain ⟨l, h1, h2⟩ := hy
          exact ⟨l, y, h1, h2⟩
        simp only [Bool.and_eq_true, decide_eq_true_eq] at hp
        have hmem : 0 < w.heap.size := hz ⟨a, len, cap, by simp⟩
        -- the elements, one by one
        have parts : ∀ n', n' ≤ cap → ∃ κ h', ∃ xss : List (List Value), ReadOnly κ h' w ∧ More ι h κ h' ∧ xss.length = n' ∧ ∀ j xs, xss[j]? = some xs → ∃ l, w.cells? 0 (a.add (j * P.cellsOf e)) (P.cellsOf e) = some l ∧ VRs κ xs l ∧ Typ P h' m e xs := by
          intro n'
          induction n' with
          | zero => intro _; exact ⟨ι, h, [], R, .refl _ _, rfl, fun j xs hx => by simp at hx⟩
          | succ n' ihn =>
            intro hn'
            obtain ⟨κ, h1, xss, R1, m1, hl1, hx⟩ := ihn (by omega)
            obtain ⟨l, y, hc, hy⟩ := each n' (by omega)
            obtain ⟨μ, h2, xs, R2, m2, hv, htp⟩ := ih hy hp.2 (fun _ => hmem) κ h1 R1
            refine ⟨μ, h2, xss ++ [xs], R2, m1.trans m2, by simp [hl1], fun j ys hj => ?_⟩
            by_cases hjn : j < n'
            · rw [List.getElem?_append_left (by omega)] at hj
              obtain ⟨l', a1, a2, a3⟩ := hx j ys hj
              exact ⟨l', a1, a2.mono m2.pre, a3.mono m2.agree⟩
            · have hjj : j = n' := by
                have := (List.getElem?_eq_some_iff.1 hj).1
                simp [hl1] at this; omega
              subst hjj
              rw [List.getElem?_append_right (by omega), hl1, Nat.sub_self] at hj
              simp at hj; subst hj
              exact ⟨l, hc, hv, htp⟩
        obtain ⟨κ, h1, xss, R1, m1, hl1, hx⟩ := parts cap (Nat.le_refl _)
        have hz' : ∀ xs ∈ xss, xs.length = P.cellsOf e := by
          intro xs hxs
          obtain ⟨j, hj, rfl⟩ := List.getElem_of_mem hxs
          obtain ⟨l, a1, a2, _⟩ := hx j xss[j] (by simp [hj])
          rw [a2.length]; exact (cells_all a1).1
        obtain ⟨hfl, hfe⟩ := row_of hl1 hz'
        have hcell : ∀ k x, xss.flatten[k]? = some x → ∃ y, w.cell? (a.add k) = some y ∧ VR κ x y := by
          intro k x hk
          have hklt : k < cap * P.cellsOf e := by rw [← hfl]; exact (List.getElem?_eq_some_iff.1 hk).1
          have hpos : 0 < P.cellsOf e := hp.1
          have hj : k / P.cellsOf e < cap := (Nat.div_lt_iff_lt_mul hpos).2 hklt
          obtain ⟨xs, hxs⟩ : ∃ xs, xss[k / P.cellsOf e]? = some xs := ⟨xss[k / P.cellsOf e]'(by omega), by simp [hl1, hj]⟩
          obtain ⟨l, a1, a2, _⟩ := hx _ xs hxs
          have hdm := Nat.div_add_mod k (P.cellsOf e)
          have hmod : k % P.cellsOf e < P.cellsOf e := Nat.mod_lt _ hpos
          have hkx : xs[k % P.cellsOf e]? = some x := by
            rw [← hfe _ xs hxs, List.getElem?_take_of_lt hmod, List.getElem?_drop, ← hk]
            congr 1
            rw [Nat.mul_comm]; exact hdm
          obtain ⟨y, hy, hv⟩ := a2.get' hkx
          refine ⟨y, ?_, hv⟩
          have := (cells_all a1).2 _ y hy
          rw [← this, addr_add', Nat.mul_comm (k / P.cellsOf e), hdm]
        by_cases h0 : cap = 0
        · subst h0
          have hl0 : len = 0 := by omega
          subst hl0
          refine ⟨κ ++ [⟨0, 0, 0, 0⟩], h1 ++ [some (.cells [] false 0)], [.slice (some ⟨h1.length, 0, none⟩) 0 0], ?_, ⟨m1.pre.trans (List.prefix_append _ _), m1.agree.trans fun _ _ q => hget_old q _, by have := m1.len; simp; omega⟩, ⟨.sliceZ _ _ ⟨0, 0, 0, 0⟩ _ (by rw [← R1.1]; simp), trivial⟩, ?_⟩
          · refine ⟨by simp [R1.1], fun i b hb => ?_⟩
            by_cases hi : i < h1.length
            · rw [hget_append hi] at hb
              obtain ⟨a1, p, a2, a3⟩ := R1.2 i b hb
              exact ⟨a1, p, by rw [List.getElem?_append_left (by rw [R1.1]; exact hi)]; exact a2, a3.mono' (List.prefix_append _ _)⟩
            · have hlt := hget_lt hb
              have : i = h1.length := by simp at hlt; omega
              subst this
              simp at hb; subst hb
              exact ⟨rfl, ⟨0, 0, 0, 0⟩, by rw [← R1.1]; simp, fun k x hk => by simp at hk, hmem, fun ho => by cases ho⟩
          · unfold Typ; rw [hu]
            exact .inr ⟨h1.length, 0, 0, [], rfl, Nat.le_refl _, by omega, by simp, by simp, fun j hj => by omega⟩
        · have hc0 : 0 < cap := by omega
          obtain ⟨v0, hv0⟩ : ∃ v0, xss.flatten[0]? = some v0 := by
            have : 0 < xss.flatten.length := by rw [hfl]; exact Nat.mul_pos hc0 hp.1
            exact ⟨xss.flatten[0], by simp⟩
          obtain ⟨y0, hy0, _⟩ := hcell 0 v0 hv0
          have ha0 : a.add 0 = a := by simp [Addr.add]
          rw [ha0] at hy0
          have hsp : a = ⟨a.block, a.off, none⟩ := by
            unfold World.cell? at hy0
            split at hy0
            · split at hy0
              · simp at hy0
              · rename_i hs
                obtain ⟨b, o, sp⟩ := a
                cases sp with
                | none => rfl
                | some _ => simp at hs
            · simp at hy0
          have hblk : a.block < w.heap.size := by
            unfold World.cell? at hy0
            split at hy0
            · rename_i hx; exact (Array.getElem?_eq_some_iff.1 hx).1
            · simp at hy0
          have hcap : cap ≠ OPEN := by
            have : maxLen < OPEN := by decide +kernel
            omega
          refine ⟨κ ++ [⟨a.block, a.off, 0, 0⟩], h1 ++ [some (.cells xss.flatten false 0)], [.slice (some ⟨h1.length, 0, none⟩) len cap], ?_, ⟨m1.pre.trans (List.prefix_append _ _), m1.agree.trans fun _ _ q => hget_old q _, by have := m1.len; simp; omega⟩, ⟨?_, trivial⟩, ?_⟩
          · refine ⟨by simp [R1.1], fun i b hb => ?_⟩
            by_cases hi : i < h1.length
            · rw [hget_append hi] at hb
              obtain ⟨a1, p, a2, a3⟩ := R1.2 i b hb
              exact ⟨a1, p, by rw [List.getElem?_append_left (by rw [R1.1]; exact hi)]; exact a2, a3.mono' (List.prefix_append _ _)⟩
            · have hlt := hget_lt hb
              have : i = h1.length := by simp at hlt; omega
              subst this
              simp at hb; subst hb
              refine ⟨rfl, ⟨a.block, a.off, 0, 0⟩, by rw [← R1.1]; simp, fun k x hk => ?_, hblk, fun ho => by cases ho⟩
              obtain ⟨y, hy, hv⟩ := hcell k x hk
              refine ⟨y, ?_, hv.mono (List.prefix_append _ _)⟩
              rw [hsp, addr_add] at hy; exact hy
          · have e : Value.slice (some a) len cap = .slice (some ⟨a.block, a.off + 0, none⟩) len cap := by rw [Nat.add_zero, ← hsp]
            rw [e]
            exact .slice h1.length 0 len cap ⟨a.block, a.off, 0, 0⟩ (by rw [← R1.1]; simp) hcap
          · unfold Typ; rw [hu]
            refine .inr ⟨h1.length, len, cap, xss.flatten, rfl, hl, hm, by simp, hfl, fun j hj => ?_⟩
            obtain ⟨xs, hxs⟩ : ∃ xs, xss[j]? = some xs := ⟨xss[j]'(by omega), by simp [hl1, hj]⟩
            obtain ⟨l, _, _, a3⟩ := hx j xs hxs
            rw [hfe j xs hxs]
            exact a3.mono fun _ _ q => hget_old q _
    · rename_i fs hu
      obtain ⟨xs, n, _, _, hlen, _, hf⟩ := DataW.trod_struct hu ht
      simp only [Bool.and_eq_true, List.all_eq_true] at hp
      obtain ⟨κ, h1, xss, R1, m1, hl1, hx⟩ := built (fparts fs) (fun j p hj => by
        obtain ⟨fd, hfd, rfl⟩ : ∃ fd, fs[j]? = some fd ∧ p = (fd.type, fd.offset) := by
          simp only [fparts, List.getElem?_map, Option.map_eq_some_iff, Array.getElem?_toList] at hj
          obtain ⟨fd, h1, h2⟩ := hj
          exact ⟨fd, h1, h2.symm⟩
        obtain ⟨y, hy⟩ : ∃ y, xs[j]? = some y := by
          have hj' := (Array.getElem?_eq_some_iff.1 hfd).1
          exact ⟨xs[j]'(by omega), by simp⟩
        exact ⟨n, y, by rw [hf j fd hfd]; exact hy, hp.2 _ (List.mem_of_getElem? hj)⟩) ι h R
      obtain ⟨t1, t2⟩ := tile (cs := cs) (fparts fs) 0 xss (by rw [hlen]; exact hp.1) hl1 fun j xs p a b => (hx j xs p a b).1
      refine ⟨κ, h1, xss.flatten, R1, m1, by simpa using t1, ?_⟩
      unfold Typ; rw [hu]
      refine ⟨by rw [t1.length, List.drop_zero]; exact hlen, fun j fd hfd => ?_⟩
      have hpj : (fparts fs)[j]? = some (fd.type, fd.offset) := by simp [fparts, hfd]
      obtain ⟨ys, hys⟩ : ∃ ys, xss[j]? = some ys := by
        have hj' := (List.getElem?_eq_some_iff.1 hpj).1
        exact ⟨xss[j]'(by omega), by simp⟩
      have := (t2 j ys _ hys hpj).2
      simp only [Nat.sub_zero] at this
      rw [this]
      exact (hx j ys _ hys hpj).2
    · rename_i n e hu
      obtain ⟨xs, n', _, _, hlen, hxl, hf⟩ := DataW.trod_array hu ht
      simp only [Bool.and_eq_true, beq_iff_eq] at hp
      obtain ⟨κ, h1, xss, R1, m1, hl1, hx⟩ := built (aparts P e n) (fun j p hj => by
        have hjn : j < n := by have := (List.getElem?_eq_some_iff.1 hj).1; simpa [aparts] using this
        obtain rfl : p = (e, j * P.cellsOf e) := by simp [aparts, hjn] at hj; exact hj.symm
        exact ⟨n', xs[j]'(by omega), by rw [hf j hjn]; simp, hp.2⟩) ι h R
      obtain ⟨t1, t2⟩ := tile (cs := cs) (aparts P e n) 0 xss (aparts_tile (by rw [hlen]; exact hp.1)) hl1 fun j xs p a b => (hx j xs p a b).1
      refine ⟨κ, h1, xss.flatten, R1, m1, by simpa using t1, ?_⟩
      unfold Typ; rw [hu]
      refine ⟨by rw [t1.length, List.drop_zero]; exact hlen, fun j hj => ?_⟩
      have hpj : (aparts P e n)[j]? = some (e, j * P.cellsOf e) := by simp [aparts, hj]
      obtain ⟨ys, hys⟩ : ∃ ys, xss[j]? = some ys := by
        have hj' := (List.getElem?_eq_some_iff.1 hpj).1
        exact ⟨xss[j]'(by omega), by simp⟩
      have := (t2 j ys _ hys hpj).2
      simp only [Nat.sub_zero] at this
      rw [this]
      exact (hx j ys _ hys hpj).2
    · simp at hp

/-- What an argument is. -/
def TypV (P : Program) (h : Heap) (m : Nat) (t : TypeId) (x : Value) : Prop :=
  match P.underlying t with
  | some (.struct _) => ∃ cs, x = .agg cs ∧ Typ P h m t cs.toList
  | some (.array _ _) => ∃ cs, x = .agg cs ∧ Typ P h m t cs.toList
  | _ => Typ P h m t [x]
theorem TypV.mono {h h' : Heap} (a : Agree h h') {m : Nat} {t : TypeId} {x : Value} (q : TypV P h m t x) : TypV P h' m t x := by
  unfold TypV at *
  split at q
  · obtain ⟨cs, h1, h2⟩ := q; exact ⟨cs, h1, h2.mono a⟩
  · obtain ⟨cs, h1, h2⟩ := q; exact ⟨cs, h1, h2.mono a⟩
  · exact q.mono a
theorem hasMem_row {w : World} {r : Reach} {base : Nat} {t : TypeId} {cs : Array Value} (h : Row.okWide P w r base t cs) : HasMem w cs.toList := by
  rintro ⟨a, l, n, hm⟩
  obtain ⟨i, hi, he⟩ := List.getElem_of_mem hm
  obtain ⟨ts, _, _, h3⟩ := h
  obtain ⟨u, _, hu⟩ := h3 i _ (by rw [Array.getElem?_eq_getElem (by simpa using hi)])
  have : cs[i]'(by simpa using hi) = .slice (some a) l n := by rw [← he]; simp
  rw [this] at hu
  exact hasMem_cell hu
theorem open_arg {H : Type} {enc : TypeId × Value → H} {W : World} {base : Nat} {m : Nat} {t : TypeId} {v : Value} {d : DataW H} {ps : List MemPlace} (hp : plainT P m t = true) (hok : Value.okWide P W .any base t v) (ht : DataW.Trod enc P W 0 (fun _ => true) true t v d ps)
    (ι : List Place) (h : Heap) (R : ReadOnly ι h W) : ∃ κ h' x, ReadOnly κ h' W ∧ More ι h κ h' ∧ VR κ x v ∧ TypV P h' m t x := by
  obtain ⟨fuel, hf⟩ := ht
  unfold Value.okWide at hok
  split at hok
  · rename_i fs hu
    obtain ⟨cs, rfl, _, hr⟩ := hok
    obtain ⟨κ, h', cs0, R', m', hv, htp⟩ := open_typ m hf hp (hasMem_row hr) ι h R
    exact ⟨κ, h', .agg cs0.toArray, R', m', VR.agg' (by simpa [Value.cells] using hv), by unfold TypV; rw [hu]; exact ⟨_, rfl, htp⟩⟩
  · rename_i n e hu
    obtain ⟨cs, rfl, _, hr⟩ := hok
    obtain ⟨κ, h', cs0, R', m', hv, htp⟩ := open_typ m hf hp (hasMem_row hr) ι h R
    exact ⟨κ, h', .agg cs0.toArray, R', m', VR.agg' (by simpa [Value.cells] using hv), by unfold TypV; rw [hu]; exact ⟨_, rfl, htp⟩⟩
  · rename_i hns hna
    have hagg : ∀ cs, v ≠ .agg cs := by
      rintro cs rfl
      unfold Cell.okWide at hok
      split at hok
      all_goals first | (rename_i hv; cases hv; done) | skip
      all_goals
        unfold Cell.ok at hok
        split at hok
      all_goals first | exact hok.elim | (rename_i hv; cases hv; done)
    have hcells : v.cells.toList = [v] := by
      cases v <;> first | rfl | exact absurd rfl (hagg _)
    rw [hcells] at hf
    have hmem : HasMem W [v] := by
      rintro ⟨a, l, n, hm⟩
      simp at hm; subst hm
      exact hasMem_cell hok
    obtain ⟨κ, h', cs0, R', m', hv, htp⟩ := open_typ m hf hp hmem ι h R
    match cs0, hv with
    | [x], ⟨hx, _⟩ =>
      refine ⟨κ, h', x, R', m', hx, ?_⟩
      unfold TypV
      split
      · rename_i fs hu; exact absurd hu (hns fs)
      · rename_i n e hu; exact absurd hu (hna n e)
      · exact htp
theorem readOnly_nil (w : World) : ReadOnly [] [] w := ⟨rfl, fun i b hb => by simp [hget] at hb⟩
/-- A law's run: it returns true, and nothing that stood has turned. -/
theorem law_runT {f : FuncId} {args args' : List Value} {h : Heap} {ι : List Place} {w : World} (R : ReadOnly ι h w) (hv : VRs ι args args') (hf : Fn P f args h fun v _ => v = .bool true) :
    Calls P f args'.toArray w fun e w' => e = .returned (.bool true) ∧ Below w.heap.size w w' :=
  law_run hf R.1 R.2 hv
/-! ### Words for what is of a type -/
theorem u8_list : ∀ (l : List Value), (∀ j, j < l.length → ∃ n, (l.drop j).take 1 = [.int .u8 n] ∧ (Lit.int .u8 n).wf = true) → ∃ bs : List UInt8, l = u8s bs
  | [], _ => ⟨[], rfl⟩
  | x :: r, h => by
    obtain ⟨n, h1, h2⟩ := h 0 (by simp)
    simp at h1; subst h1
    obtain ⟨bs, hb⟩ := u8_list r fun j hj => by simpa using h (j + 1) (by simpa using hj)
    simp only [Lit.wf, IntKind.min, IntKind.max, IntKind.signed, IntKind.bits, Bool.and_eq_true] at h2
    refine ⟨UInt8.ofNat n.toNat :: bs, ?_⟩
    subst hb
    simp only [u8s, List.map_cons, List.cons.injEq, Value.int.injEq, and_true, true_and]
    simp at h2 ⊢
    omega
/-- A row of bytes. -/
theorem typ_bytes {h : Heap} {m : Nat} {t e : TypeId} {x : Value} (ht : P.underlying t = some (.slice e)) (he : P.underlying e = some (.int .u8)) (hc : P.cellsOf e = 1) (q : TypV P h (m + 2) t x) :
    ∃ (bs : List UInt8) (a : Option Addr) (cap : Nat), x = .slice a bs.length cap ∧ bs.length ≤ maxLen ∧ Row h a bs.length cap (u8s bs) := by
  unfold TypV at q
  rw [ht] at q
  simp only at q
  unfold Typ at q
  rw [ht] at q
  simp only [hc, Nat.mul_one] at q
  have hO : maxLen < OPEN := by decide +kernel
  rcases q with q | ⟨i, len, cap, l, h1, h2, h3, h4, h5, h6⟩
  · simp at q; subst q
    exact ⟨[], none, 0, rfl, Nat.zero_le _, rfl, by omega, Nat.le_refl _, .inl ⟨rfl, rfl, rfl⟩⟩
  · simp at h1; subst h1
    obtain ⟨bs, rfl⟩ := u8_list l fun j hj => by
      have := h6 j (by omega)
      unfold Typ at this
      rw [he] at this
      exact this
    have hbl : bs.length = cap := by simpa using h5
    refine ⟨bs.take len, some ⟨i, 0, none⟩, cap, by simp [hbl, h2], by simp; omega, by simp, by omega, by simp; omega, .inr ⟨i, 0, u8s bs, false, 0, rfl, h4, by simp; omega, ?_⟩⟩
    simp [hbl, h2]
end Go.Sx
end
section
/-
  Sx, part T: running code whose regions draw their order. Own words; no condition.
-/
namespace Go.Sx
open Go
variable {P : Program} {ty : TypeId → Option TD} {N : Nat}
def sameAll {α : Type} (f : α → α → Bool) : List α → List α → Bool
  | [], [] => true
  | x :: xs, y :: ys => f x y && sameAll f xs ys
  | _, _ => false
theorem sameAll_eq {α : Type} {f : α → α → Bool} (hf : ∀ x y, f x y = true → x = y) : ∀ {xs ys : List α}, sameAll f xs ys = true → xs = ys
  | [], [], _ => rfl
  | x :: xs, y :: ys, h => by
    simp only [sameAll, Bool.and_eq_true] at h
    rw [hf x y h.1, sameAll_eq hf h.2]
  | [], _ :: _, h => by simp [sameAll] at h
  | _ :: _, [], h => by simp [sameAll] at h
def sameV : Nat → Value → Value → Bool
  | 0, _, _ => false
  | n + 1, x, y =>
    match x, y with
    | .bool a, .bool b => a == b
    | .int k a, .int k' b => decide (k = k') && decide (a = b)
    | .string a, .string b => a.data.toList == b.data.toList
    | .pointer a, .pointer b => decide (a = b)
    | .slice a l c, .slice b l' c' => decide (a = b) && (l == l') && (c == c')
    | .agg xs, .agg ys => sameAll (sameV n) xs.toList ys.toList
    | .tuple xs, .tuple ys => sameAll (sameV n) xs.toList ys.toList
    | .nilFunc, .nilFunc => true
    | .nilIface, .nilIface => true
    | .map none, .map none => true
    | .func (.func f) a b, .func (.func g) c d => (f == g) && sameAll (sameV n) a.toList c.toList && sameAll (sameV n) b.toList d.toList
    | _, _ => false
theorem sameV_eq : ∀ (n : Nat) (x y : Value), sameV n x y = true → x = y := by
  intro n
  induction n with
  | zero => intro x y h; simp [sameV] at h
  | succ n ih =>
    intro x y h
    unfold sameV at h
    split at h
    · simp at h; rw [h]
    · simp at h; rw [h.1, h.2]
    · rename_i a b
      simp at h
      obtain ⟨⟨la⟩⟩ := a
      obtain ⟨⟨lb⟩⟩ := b
      simp at h; rw [h]
    · simp at h; rw [h]
    · simp at h; rw [h.1.1, h.1.2, h.2]
    · rename_i a b
      have := sameAll_eq ih h
      rw [Array.ext' this]
    · rename_i a b
      have := sameAll_eq ih h
      rw [Array.ext' this]
    · rfl
    · rfl
    · rfl
    · simp only [Bool.and_eq_true, beq_iff_eq] at h
      rw [h.1.1, Array.ext' (sameAll_eq ih h.1.2), Array.ext' (sameAll_eq ih h.2)]
    · simp at h
def sameE (x y : Ent) : Bool :=
  match x, y with
  | .v a, .v b => sameV 6 a b
  | _, _ => false
theorem sameE_eq {x y : Ent} (h : sameE x y = true) : x = y := by
  unfold sameE at h
  split at h
  · rw [sameV_eq 6 _ _ h]
  · simp at h
def sameB (x y : Option Blk) : Bool :=
  match x, y with
  | none, none => true
  | some (.cells cs o u), some (.cells ds p v) => sameAll (sameV 4) cs ds && (o == p) && (u == v)
  | _, _ => false
theorem sameB_eq {x y : Option Blk} (h : sameB x y = true) : x = y := by
  unfold sameB at h
  split at h
  · rfl
  · simp only [Bool.and_eq_true, beq_iff_eq] at h
    rw [sameAll_eq (sameV_eq 4) h.1.1, h.1.2, h.2]
  · simp at h
/-- Whether what stood stands as it did. -/
def agreeB : Heap → Heap → Bool
  | [], _ => true
  | none :: h, _ :: h' => agreeB h h'
  | some b :: h, b' :: h' => sameB (some b) b' && agreeB h h'
  | _ :: _, [] => false
theorem agreeB_ok : ∀ {h h' : Heap}, agreeB h h' = true → Agree h h'
  | [], _, _, i, b, hb => by simp [hget] at hb
  | none :: h, c :: h', q, i, b, hb => by
    cases i with
    | zero => simp [hget] at hb
    | succ i => rw [hget_s] at hb ⊢; exact agreeB_ok (h := h) q i b hb
  | some x :: h, c :: h', q, i, b, hb => by
    simp only [agreeB, Bool.and_eq_true] at q
    cases i with
    | zero => rw [hget_0] at hb ⊢; rw [← sameB_eq q.1]; exact hb
    | succ i => rw [hget_s] at hb ⊢; exact agreeB_ok (h := h) q.2 i b hb
  | none :: _, [], q, _, _, _ => by simp [agreeB] at q
  | some _ :: _, [], q, _, _, _ => by simp [agreeB] at q
/-- The same slots, in any order; the same heap. -/
def sameT (a b : List (Nat × Ent)) : Bool := a.all fun p => match lk a p.1, lk b p.1 with
  | some x, some y => sameE x y
  | _, _ => false
def sameS (s z : St) : Bool := sameT s.tm z.tm && sameT z.tm s.tm && sameAll sameB s.h z.h
theorem sameT_lk {a b : List (Nat × Ent)} (h : sameT a b = true) : ∀ t e, lk a t = some e → lk b t = some e := by
  intro t e ht
  have hm : ∃ x, (t, x) ∈ a := by
    clear h
    induction a with
    | nil => simp [lk] at ht
    | cons p r ih =>
      obtain ⟨u, v⟩ := p
      simp only [lk] at ht
      split at ht
      · rename_i hu; subst hu; exact ⟨v, by simp⟩
      · obtain ⟨x, hx⟩ := ih ht; exact ⟨x, by simp [hx]⟩
  obtain ⟨x, hx⟩ := hm
  have := List.all_eq_true.1 h _ hx
  simp only [ht] at this
  cases hb : lk b t with
  | none => simp [hb] at this
  | some y => simp only [hb] at this; rw [sameE_eq this]
theorem sameS_ok {s z : St} (h : sameS s z = true) : (∀ t, lk s.tm t = lk z.tm t) ∧ s.h = z.h := by
  simp only [sameS, Bool.and_eq_true] at h
  refine ⟨fun t => ?_, sameAll_eq (fun _ _ => sameB_eq) h.2⟩
  cases hs : lk s.tm t with
  | some e => rw [sameT_lk h.1.1 t e hs]
  | none =>
    cases hz : lk z.tm t with
    | none => rfl
    | some e => rw [sameT_lk h.1.2 t e hz] at hs; cases hs
/-- A plan for a region: quiet ones first; else whichever comes up. -/
def mkAlts (ops : Array Oper) (rest : Nat → PlanQ) (pend : List Nat) : List Nat → PlanQ
  | [] => .stop
  | i :: r => .alt i (!(pend.all fun k => !noEdge ops i k)) (rest i) (mkAlts ops rest pend r)
def mkPlan (ops : Array Oper) : Nat → Array Bool → List Nat → PlanQ
  | 0, _, _ => .stop
  | n + 1, listed, pend =>
    match (Region.ready .any ops listed).find? (fun i => (match ops[i]? with | some o => isP o.op | none => false) && Region.free .any ops listed i) with
    | some i => match ops[i]? with
      | some o => match still o.op with
        | true => .soft i false (mkPlan ops n (listed.setIfInBounds i true) pend)
        | false => .soft i true (mkPlan ops n (listed.setIfInBounds i true) (i :: pend))
      | none => .stop
    | none => mkAlts ops (fun i => mkPlan ops n (listed.setIfInBounds i true) pend) pend (Region.ready .any ops listed)
def planOf (ops : Array Oper) : PlanQ := mkPlan ops ops.size (Array.replicate ops.size false) []
noncomputable section
variable (P : Program) (ty : TypeId → Option TD) (N : Nat)
def goodQ (q : Bool) (l : List Heap) (h : Heap) : Bool :=
  match q with
  | true => l.all fun g => agreeB g h
  | false => true
def isStop : PlanQ → Bool
  | .stop => true
  | _ => false
def drawE (run : Run) (all : List Oper) : PlanQ → Bool → List Heap → St → Option St
  | .stop, _, _, s => some s
  | .soft i w r, _, l, s => match all[i]? with
    | some o => match isP o.op, kindA ty o.op with
      | true, false => match stepE ty N run all o s with
        | some s1 => drawE run all r true (pendH w s.h l) s1
        | none => none
      | _, _ => none
    | none => none
  | .alt i q r o, _, l, s => match all[i]? with
    | some op => match stepE ty N run all op s with
      | some s1 => match goodQ q l s1.h with
        | true => match drawE run all r true l s1 with
          | some s2 => match isStop o with
            | true => some s2
            | false => match drawE run all o false l s with
              | some s3 => match sameS s3 s2 with
                | true => some s2
                | false => none
              | none => none
          | none => none
        | false => none
      | none => none
    | none => none
end
/-- The same, in words that say what holds. -/
def popsQ (P : Program) (ty : TypeId → Option TD) (N : Nat) (all : List Oper) (K : St → Prop) : PlanQ → Bool → List Heap → St → Prop
  | .stop, true, _, s => K s
  | .stop, false, _, _ => True
  | .soft i w r, _, pend, s => ∃ o e, all[i]? = some o ∧ softQ ty N all o s.tm s.h = some e ∧ popsQ P ty N all K r true (pendH w s.h pend) ⟨put o.dst e s.tm, s.h⟩
  | .alt i q r o, _, pend, s => (∃ op, all[i]? = some op ∧ stepQ P ty N all op (fun s' => agreeQ q pend s'.h ∧ popsQ P ty N all K r true pend s') s) ∧ popsQ P ty N all K o false pend s
theorem popsQ_sound {K : St → Prop} (hK : ByNumber K) {ops : Array Oper} : ∀ (p : PlanQ) (b : Bool) (fuel : Nat) (listed : Array Bool) (pend : List (Nat × Heap)) (s : St), p.ok ops b fuel listed (pend.map (·.1)) = true → popsQ P ty N ops.toList K p b (pend.map (·.2)) s →
    (b = true → DQ P ty N ops (Sof ops pend) K fuel listed s) ∧ ∀ i ∈ p.heads, ∀ o, ops[i]? = some o → ∃ f, fuel = f + 1 ∧ stepQ P ty N ops.toList o (fun s' => (s'.h = s.h ∨ Sof ops pend i s'.h) ∧ DQ P ty N ops (Sof ops pend) K f (listed.setIfInBounds i true) s') s
  | .stop, b, fuel, listed, pend, s, hok, h => by
    refine ⟨?_, fun i hi => by cases hi⟩
    rintro rfl
    simp only [PlanQ.ok, List.isEmpty_iff] at hok
    simp only [popsQ] at h
    cases fuel with
    | zero => exact ⟨hok, h⟩
    | succ f => exact ⟨fun _ => h, fun i hi => by rw [hok] at hi; cases hi⟩
  | .soft i w r, b, fuel, listed, pend, s, hok, h => by
    refine ⟨?_, fun i hi => by cases hi⟩
    rintro rfl
    cases fuel with
    | zero => simp [PlanQ.ok] at hok
    | succ f =>
      simp only [PlanQ.ok, Bool.and_eq_true] at hok
      obtain ⟨⟨⟨h1, h2⟩, h3⟩, h4⟩ := hok
      simp only [popsQ] at h
      obtain ⟨o, e, ho, a1, a3⟩ := h
      have ho' : ops[i]? = some o := by rw [← Array.getElem?_toList]; exact ho
      rw [ho'] at h3
      simp only [Bool.and_eq_true] at h3
      cases w with
      | true =>
        have := (popsQ_sound hK r true f _ ((i, s.h) :: pend) ⟨put o.dst e s.tm, s.h⟩ h4 a3).1 rfl
        refine (dq_first (S := Sof ops ((i, s.h) :: pend)) hK ho' h3.1 f listed s.tm s.h e (Region.free_spec ho' h2) (by simpa using h1) (fun j h' hn hh => softQ_agree (hh (i, s.h) (by simp) hn) a1) a1 this).mono fun j h q p hp => q p (by simp [hp])
      | false =>
        have hst : still o.op = true := by simpa using h3.2
        have := (popsQ_sound hK r true f _ pend ⟨put o.dst e s.tm, s.h⟩ h4 a3).1 rfl
        refine dq_first (S := Sof ops pend) hK ho' h3.1 f listed s.tm s.h e (Region.free_spec ho' h2) (by simpa using h1) (fun j h' hn hh => ?_) a1 this
        have e : softQ ty N ops.toList o s.tm h' = softQ ty N ops.toList o s.tm s.h := by
          unfold softQ
          rw [semP_still hst s.tm h' s.h]
        rw [e]; exact a1
  | .alt i q r o, b, fuel, listed, pend, s, hok, h => by
    cases fuel with
    | zero => cases b <;> simp [PlanQ.ok] at hok
    | succ f =>
      simp only [PlanQ.ok, Bool.and_eq_true] at hok
      obtain ⟨⟨⟨h1, hq⟩, h2⟩, h3⟩ := hok
      simp only [popsQ] at h
      obtain ⟨ha, hb⟩ := h
      have key : ∀ k ∈ (PlanQ.alt i q r o).heads, ∀ op, ops[k]? = some op → ∃ f', f + 1 = f' + 1 ∧ stepQ P ty N ops.toList op (fun s' => (s'.h = s.h ∨ Sof ops pend k s'.h) ∧ DQ P ty N ops (Sof ops pend) K f' (listed.setIfInBounds k true) s') s := by
        intro k hk op hop
        simp only [PlanQ.heads, List.mem_cons] at hk
        rcases hk with rfl | hk
        · refine ⟨f, rfl, ?_⟩
          obtain ⟨op', ho', ha⟩ := ha
          rw [Array.getElem?_toList, hop] at ho'
          cases ho'
          refine stepQ_mono (fun s' ⟨a, b⟩ => ⟨.inr ?_, (popsQ_sound hK r true f _ pend s' h2 b).1 rfl⟩) ha
          intro p hp hn
          cases q with
          | true => exact agreeAll_mem a p.2 (List.mem_map.2 ⟨p, hp, rfl⟩)
          | false =>
            simp only [Bool.false_or, List.all_eq_true, List.mem_map, forall_exists_index, and_imp, Bool.not_eq_true'] at hq
            have := hq p.1 p hp rfl
            rw [hn] at this; cases this
        · exact (popsQ_sound hK o false (f + 1) listed pend s h3 hb).2 k hk op hop
      refine ⟨?_, key⟩
      rintro rfl
      simp only [Bool.not_true, Bool.false_or, Bool.and_eq_true, List.all_eq_true] at h1
      refine ⟨fun h0 => ?_, fun k hk op hop => ?_⟩
      · rw [h0] at h1; simp at h1
      · obtain ⟨f', hf, q⟩ := key k (by simpa [PlanQ.heads] using h1.2 k hk) op hop
        cases hf
        exact q

theorem alike_all {all : List Oper} {s s' : List (Nat × Ent)} {o : Oper} (e : ∀ t, lk s t = lk s' t) : Alike' all s s' o := ⟨fun t _ => e t, fun _ _ t _ => e t⟩
theorem popsQ_congr {all : List Oper} {K : St → Prop} (hK : ByNumber K) : ∀ (p : PlanQ) {b : Bool} {l : List Heap} {tm tm' : List (Nat × Ent)} {h : Heap}, (∀ t, lk tm t = lk tm' t) → popsQ P ty N all K p b l ⟨tm, h⟩ → popsQ P ty N all K p b l ⟨tm', h⟩
  | .stop, true, _, _, _, _, e, q => hK _ _ _ e q
  | .stop, false, _, _, _, _, _, _ => trivial
  | .soft i w r, b, l, tm, tm', h, e, q => by
    simp only [popsQ] at *
    obtain ⟨o, en, ho, hs, q⟩ := q
    exact ⟨o, en, ho, by rw [← softQ_congr (alike_all e)]; exact hs, popsQ_congr hK r (fun t => by rw [lk_put, lk_put, e]) q⟩
  | .alt i q r o, b, l, tm, tm', h, e, hq => by
    simp only [popsQ] at *
    obtain ⟨⟨op, ho, hs⟩, h2⟩ := hq
    refine ⟨⟨op, ho, ?_⟩, popsQ_congr hK o e h2⟩
    refine stepQ_mono ?_ (stepQ_congr (alike_all e) hs)
    rintro z ⟨u, h', rfl, a, b⟩
    exact ⟨a, popsQ_congr hK r (fun t => by rw [lk_put, lk_put, e]) b⟩
theorem popsQ_mono {all : List Oper} {K K' : St → Prop} (hk : ∀ s, K s → K' s) : ∀ (p : PlanQ) {b : Bool} {l : List Heap} {s : St}, popsQ P ty N all K p b l s → popsQ P ty N all K' p b l s
  | .stop, true, _, _, q => hk _ q
  | .stop, false, _, _, _ => trivial
  | .soft i w r, b, l, s, q => by
    simp only [popsQ] at *
    obtain ⟨o, e, ho, hs, q⟩ := q
    exact ⟨o, e, ho, hs, popsQ_mono hk r q⟩
  | .alt i q r o, b, l, s, hq => by
    simp only [popsQ] at *
    obtain ⟨⟨op, ho, hs⟩, h2⟩ := hq
    exact ⟨⟨op, ho, stepQ_mono (fun _ ⟨a, b⟩ => ⟨a, popsQ_mono hk r b⟩) hs⟩, popsQ_mono hk o h2⟩
/-- What a step gives, in the words of part Z. -/
theorem stepE_Q {run : Run} (hr : RunOk P run) {all : List Oper} {o : Oper} {s s1 : St} (h : stepE ty N run all o s = some s1) :
    stepQ P ty N all o (fun z => (∀ t, lk z.tm t = lk s1.tm t) ∧ z.h = s1.h) s := by
  unfold stepE at h
  unfold stepQ
  have ex : ∀ v h', execE ty run o.op s = some (v, h') → s1 = ⟨setD o.dst (.v v) s.tm, h'⟩ → exec P ty o (fun z => (∀ t, lk z.tm t = lk s1.tm t) ∧ z.h = s1.h) s := by
    rintro v h' hx rfl
    refine exec_mono ?_ (execE_exec hr hx)
    rintro z rfl
    exact ⟨fun t => (lk_setD _ _ _ t).symm, rfl⟩
  split at h
  · simp at h
  · rename_i hd
    simp only [hd]
    cases hg : o.guard with
    | none =>
      simp only [hg] at h ⊢
      split at h
      · rename_i v h' hx; simp at h; exact ex v h' hx h.symm
      · simp at h
    | some g =>
      simp only [hg] at h ⊢
      cases hs : guardSlot all g with
      | none => simp only [hs, reduceCtorEq] at h
      | some t =>
        simp only [hs] at h
        have hq : askG all s.tm g = (lk s.tm t).bind guardW := by unfold askG; rw [hs]; rfl
        rw [hq]
        split at h
        · simp at h
        · rename_i hb
          simp at h; subst h
          simp only [hb]
          exact ⟨fun t => (lk_setD _ _ _ t).symm, trivial⟩
        · rename_i b hb
          simp only [hb]
          split at h
          · rename_i hw
            simp only [hw]
            split at h
            · rename_i v h' hx; simp at h; exact ex v h' hx h.symm
            · simp at h
          · rename_i hw
            simp only [hw]
            simp at h; subst h
            exact ⟨fun t => (lk_setD _ _ _ t).symm, rfl⟩
theorem stepE_soft {run : Run} {all : List Oper} {o : Oper} {s s1 : St} (hp : isP o.op = true) (hA : kindA ty o.op = false) (h : stepE ty N run all o s = some s1) :
    ∃ e, softQ ty N all o s.tm s.h = some e ∧ (∀ t, lk (put o.dst e s.tm) t = lk s1.tm t) ∧ s1.h = s.h := by
  unfold stepE at h
  unfold softQ
  have ex : ∀ v h', execE ty run o.op s = some (v, h') → semP ty true o.op s.tm s.h = some v ∧ h' = s.h := by
    intro v h' hx
    unfold execE at hx
    simp only [callee_isP hp, hA] at hx
    split at hx
    · rename_i v' hv; simp at hx; obtain ⟨rfl, rfl⟩ := hx; exact ⟨hv, rfl⟩
    · simp at hx
  split at h
  · simp at h
  · rename_i hd
    simp only [hd, hA]
    cases hg : o.guard with
    | none =>
      simp only [hg] at h ⊢
      split at h
      · rename_i v h' hx
        obtain ⟨h1, rfl⟩ := ex v h' hx
        simp at h; subst h
        exact ⟨.v v, by rw [h1]; rfl, fun t => (lk_setD _ _ _ t).symm, rfl⟩
      · simp at h
    | some g =>
      simp only [hg] at h ⊢
      cases hs : guardSlot all g with
      | none => simp only [hs, reduceCtorEq] at h
      | some t =>
        simp only [hs] at h
        have hq : askG all s.tm g = (lk s.tm t).bind guardW := by unfold askG; rw [hs]; rfl
        rw [hq]
        split at h
        · simp at h
        · rename_i hb
          simp at h; subst h
          simp only [hb]
          exact ⟨_, rfl, fun t => (lk_setD _ _ _ t).symm, trivial⟩
        · rename_i b hb
          simp only [hb]
          split at h
          · rename_i hw
            simp only [hw]
            split at h
            · rename_i v h' hx
              obtain ⟨h1, rfl⟩ := ex v h' hx
              simp at h; subst h
              exact ⟨.v v, by rw [h1]; rfl, fun t => (lk_setD _ _ _ t).symm, rfl⟩
            · simp at h
          · rename_i hw
            simp only [hw]
            simp at h; subst h
            exact ⟨_, rfl, fun t => (lk_setD _ _ _ t).symm, rfl⟩
theorem goodQ_ok {q : Bool} {l : List Heap} {h : Heap} (g : goodQ q l h = true) : agreeQ q l h := by
  cases q with
  | false => trivial
  | true =>
    simp only [goodQ] at g
    show agreeAll l h
    induction l with
    | nil => trivial
    | cons a r ih =>
      simp only [List.all_cons, Bool.and_eq_true] at g
      exact ⟨agreeB_ok g.1, ih g.2⟩
theorem byN (s : St) : ByNumber fun z : St => (∀ t, lk z.tm t = lk s.tm t) ∧ z.h = s.h := fun _ _ _ e ⟨a, b⟩ => ⟨fun t => (e t).symm.trans (a t), b⟩
theorem drawE_sound (T : TyOk P ty) {run : Run} (hr : RunOk P run) {all : List Oper} : ∀ (p : PlanQ) (b : Bool) (l : List Heap) (s s2 : St), drawE ty N run all p b l s = some s2 → popsQ P ty N all (fun z => (∀ t, lk z.tm t = lk s2.tm t) ∧ z.h = s2.h) p b l s
  | .stop, true, _, s, s2, h => by
    simp only [drawE, Option.some.injEq] at h; subst h
    exact ⟨fun _ => rfl, rfl⟩
  | .stop, false, _, s, s2, h => trivial
  | .soft i w r, b, l, s, s2, h => by
    simp only [drawE] at h
    split at h
    · rename_i o ho
      split at h
      · rename_i hp hA
        split at h
        · rename_i s1 h1
          obtain ⟨e, h2, h3, h4⟩ := stepE_soft hp hA h1
          refine ⟨o, e, ho, h2, ?_⟩
          obtain ⟨tm1, hp1⟩ := s1
          simp only at h3 h4
          subst h4
          exact popsQ_congr (byN s2) r (fun t => (h3 t).symm) (drawE_sound T hr r true _ _ s2 h)
        · simp at h
      · simp at h
    · simp at h
  | .alt i q r o, b, l, s, s2, h => by
    simp only [drawE] at h
    split at h
    · rename_i op hop
      split at h
      · rename_i s1 h1
        split at h
        · rename_i hg
          split at h
          · rename_i s3 h3
            have first : ∃ op, all[i]? = some op ∧ stepQ P ty N all op (fun s' => agreeQ q l s'.h ∧ popsQ P ty N all (fun z => (∀ t, lk z.tm t = lk s3.tm t) ∧ z.h = s3.h) r true l s') s := by
              refine ⟨op, hop, stepQ_mono ?_ (stepE_Q hr h1)⟩
              rintro ⟨tm, hp⟩ ⟨e1, e2⟩
              simp only at e1 e2
              subst e2
              exact ⟨goodQ_ok hg, popsQ_congr (byN s3) r (fun t => (e1 t).symm) (drawE_sound T hr r true l s1 s3 h3)⟩
            split at h
            · rename_i hstop
              simp at h; subst h
              cases o with
              | stop => exact ⟨first, trivial⟩
              | _ => simp [isStop] at hstop
            · split at h
              · rename_i s4 h4
                split at h
                · rename_i hs
                  simp at h; subst h
                  obtain ⟨e1, e2⟩ := sameS_ok hs
                  exact ⟨first, popsQ_mono (fun z ⟨a, b⟩ => ⟨fun t => (a t).trans (e1 t), b.trans e2⟩) o (drawE_sound T hr o false l s s4 h4)⟩
                · simp at h
              · simp at h
          · simp at h
        · simp at h
      · simp at h
    · simp at h
noncomputable section
section
variable (P : Program) (ty : TypeId → Option TD) (N : Nat)
def codeE (run : Run) : Nat → Code → St → Option (Exit × St)
  | 0, _, _ => none
  | n + 1, .seq a b, s => match codeE run n a s with
    | some (.normal, s') => codeE run n b s'
    | r => r
  | _ + 1, .region _ ops false, s => match opsE ty N run ops.toList ops.toList s with
    | some s' => some (.normal, s')
    | none => none
  | _ + 1, .region _ ops true, s => match planOk ops (planOf ops) with
    | true => match drawE ty N run ops.toList (planOf ops) true [] s with
      | some s' => some (.normal, s')
      | none => none
    | false => none
  | n + 1, .cond c x y, s => match ev true s.tm c with
    | some (.bool true) => codeE run n x s
    | some (.bool false) => codeE run n y s
    | _ => none
  | n + 1, .block id c, s => match codeE run n c s with
    | some (.exit i, s') => match Nat.beq i id with
      | true => some (.normal, s')
      | false => some (.exit i, s')
    | r => r
  | n + 1, .loop c, s => match codeE run n c s with
    | some (.normal, s') => codeE run n (.loop c) s'
    | r => r
  | _ + 1, .skip, s => some (.normal, s)
  | _ + 1, .ret, s => some (.ret, s)
  | _ + 1, .exit i, s => some (.exit i, s)
  | _ + 1, _, _ => none
/-- A call: d deep at most, each body n long at most. -/
def fnE (n : Nat) (more : Run → Run) : Nat → Run
  | 0, _, _, _ => none
  | d + 1, f, args, h => match more (fnE n more d) f args h with
    | some r => some r
    | none => match P.funcs[f]? with
      | some fn => match fn.body with
        | some c => match fn.name == "runtime.NumGoroutine", Nat.ble args.length fn.ntmps with
          | false, true => match codeE ty fn.ntmps (fnE n more d) n c ⟨argTm 0 args, h⟩ with
            | some (.normal, s) => match resC ty fn.results.toList s with
              | some v => some (v, s.h)
              | none => none
            | some (.ret, s) => match resC ty fn.results.toList s with
              | some v => some (v, s.h)
              | none => none
            | _ => none
          | _, _ => none
        | none => none
      | none => none
end
end
theorem rounds_mono {c : Code} {Q Q' : Exit → Act → World → Prop} (hq : ∀ e a w, Q e a w → Q' e a w) : ∀ {n : Nat} {a : Act} {w : World}, Code.rounds P c Q n a w → Code.rounds P c Q' n a w
  | 0, _, _, h => h
  | n + 1, _, _, h => by
    rw [rounds_succ] at *
    refine Code.wp_mono (fun e a w q => ?_) h
    cases e with
    | normal => exact rounds_mono hq (n := n) q
    | _ => exact hq _ _ _ q
theorem codeE_sound (T : TyOk P ty) (hm : P.follows .mixedOrders = true) {run : Run} (hr : RunOk P run) : ∀ (n : Nat) (c : Code) (s : St) (e : Exit) (s' : St), codeE ty N run n c s = some (e, s') → CW P N c s fun e' z => e' = e ∧ z = s' := by
  intro n
  induction n using Nat.strongRecOn with
  | ind n0 ih0 =>
  cases n0 with
  | zero => intro c s e s' h; simp [codeE] at h
  | succ n =>
    intro c s e s' h
    have ih : ∀ m, m ≤ n → ∀ (c : Code) (s : St) (e : Exit) (s' : St), codeE ty N run m c s = some (e, s') → CW P N c s fun e' z => e' = e ∧ z = s' := fun m hm => ih0 m (by omega)
    have ihn := ih n (Nat.le_refl _)
    cases c with
    | seq a b =>
      refine cw_seq fun K hK => ?_
      simp only [codeE] at h
      split at h
      · rename_i s1 h1
        refine (ihn a s _ _ h1).mono ?_
        rintro e1 z ⟨h2, h3⟩
        subst h2; subst h3
        exact hK _ (ihn b _ e s' h)
      · rename_i r hne
        refine (ihn a s e s' h).mono ?_
        rintro e1 z ⟨h2, h3⟩
        cases e1 with
        | normal => rw [← h2] at h; exact absurd h (by intro h; exact hne _ h)
        | _ => exact ⟨h2, h3⟩
    | region id ops b =>
      cases b with
      | true =>
        simp only [codeE] at h
        split at h
        · rename_i hpl
          split at h
          · rename_i s1 h1
            simp at h; obtain ⟨rfl, rfl⟩ := h
            intro ι a w L
            refine wp_region_any hm ?_
            have hK : ByNumber fun z : St => (∀ t, lk z.tm t = lk s1.tm t) ∧ z.h = s1.h := fun tm tm' h e ⟨a, b⟩ => ⟨fun t => (e t).symm.trans (a t), b⟩
            have hd := (popsQ_sound (P := P) hK (planOf ops) true ops.size _ [] s hpl (drawE_sound T hr (planOf ops) true [] s s1 h1)).1 rfl
            refine dq_sound T (w := { w with drawn := w.drawn + 1 }) (a := a) ⟨L.1.drew _, L.2⟩ hd ?_
            rintro a' w' ⟨κ, s', ⟨h0, h1⟩, L', g⟩
            obtain ⟨tm', hp'⟩ := s'
            simp only at h0 h1
            subst h1
            exact ⟨κ, s1, ⟨rfl, rfl⟩, Like.byNumber (fun t => (h0 t).symm) L', (Grow.drew _).trans g⟩
          · simp at h
        · simp at h
      | false =>
        simp only [codeE] at h
        split at h
        · rename_i s1 h1
          simp at h; obtain ⟨rfl, rfl⟩ := h
          intro ι a w L
          refine wp_region_list (opsE_sound T hr _ L h1 fun a' w' q => ?_)
          obtain ⟨κ, z, hz, r⟩ := q
          exact ⟨κ, z, ⟨rfl, hz⟩, r⟩
        · simp at h
    | cond c x y =>
      simp only [codeE] at h
      split at h
      · rename_i hc
        exact cw_cond hc (fun _ => ihn x s e s' h) (fun h0 => by cases h0)
      · rename_i hc
        exact cw_cond hc (fun h0 => by cases h0) (fun _ => ihn y s e s' h)
      · simp at h
    | block id c =>
      refine cw_block ?_
      simp only [codeE] at h
      split at h
      · rename_i i s1 h1
        split at h
        · rename_i hb
          have := Nat.eq_of_beq_eq_true hb
          subst this
          simp at h; obtain ⟨rfl, rfl⟩ := h
          refine (ihn c s _ _ h1).mono ?_
          rintro _ _ ⟨rfl, rfl⟩
          simp [blockC]
        · rename_i hb
          have := Nat.ne_of_beq_eq_false hb
          simp at h; obtain ⟨rfl, rfl⟩ := h
          refine (ihn c s _ _ h1).mono ?_
          rintro _ _ ⟨rfl, rfl⟩
          simp [blockC, this]
      · rename_i r hne
        refine (ihn c s e s' h).mono ?_
        rintro e1 z ⟨h2, h3⟩
        cases e1 with
        | exit i => rw [← h2] at h; exact absurd h (by intro h; exact hne _ _ h)
        | _ => exact ⟨h2, h3⟩
    | loop c =>
      have key : ∀ (m : Nat), m ≤ n + 1 → ∀ (s : St) (e : Exit) (s' : St), codeE ty N run m (.loop c) s = some (e, s') → ∃ k, ∀ ι a w, Like ι s N a w → Code.rounds P c (fun e1 => Goes ι s.h w N (fun z => e1 = e ∧ z = s')) k a w := by
        intro m
        induction m with
        | zero => intro _ s e s' h; simp [codeE] at h
        | succ m ihm =>
          intro hm s e s' h
          have ihc : ∀ (s : St) (e : Exit) (s' : St), codeE ty N run m c s = some (e, s') → CW P N c s fun e' z => e' = e ∧ z = s' := fun s e s' h => ih m (by omega) c s e s' h
          simp only [codeE] at h
          split at h
          · rename_i s1 h1
            obtain ⟨k, hk⟩ := ihm (by omega) s1 e s' h
            refine ⟨k + 1, fun ι a w L => ?_⟩
            rw [rounds_succ]
            refine Code.wp_mono ?_ (ihc s _ _ h1 ι a w L)
            rintro e1 a1 w1 ⟨κ, z, ⟨h2, h3⟩, L1, g⟩
            subst h2; subst h3
            exact rounds_mono (fun _ _ _ q => Goes.trans g q) (hk κ a1 w1 L1)
          · rename_i r hne
            refine ⟨1, fun ι a w L => ?_⟩
            rw [rounds_succ]
            refine Code.wp_mono ?_ (ihc s e s' h ι a w L)
            rintro e1 a1 w1 ⟨κ, z, ⟨h2, h3⟩, L1, g⟩
            cases e1 with
            | normal => rw [← h2] at h; exact absurd h (by intro h; exact hne _ h)
            | _ => exact ⟨κ, z, ⟨h2, h3⟩, L1, g⟩
      obtain ⟨k, hk⟩ := key (n + 1) (Nat.le_refl _) s e s' h
      exact fun ι a w L => wp_loop_rounds k (hk ι a w L)
    | skip => simp only [codeE, Option.some.injEq, Prod.mk.injEq] at h; obtain ⟨rfl, rfl⟩ := h; exact cw_skip ⟨rfl, rfl⟩
    | ret => simp only [codeE, Option.some.injEq, Prod.mk.injEq] at h; obtain ⟨rfl, rfl⟩ := h; exact cw_ret ⟨rfl, rfl⟩
    | exit i => simp only [codeE, Option.some.injEq, Prod.mk.injEq] at h; obtain ⟨rfl, rfl⟩ := h; exact cw_exit ⟨rfl, rfl⟩
    | _ => simp [codeE] at h
theorem fnE_sound (T : TyOk P ty) (hmx : P.follows .mixedOrders = true) {n : Nat} {more : Run → Run} (hm : ∀ run, RunOk P run → RunOk P (more run)) : ∀ d, RunOk P (fnE P ty n more d) := by
  intro d
  induction d with
  | zero => intro f args h v h' hx; simp [fnE] at hx
  | succ d ih =>
    intro f args h v h' hx
    simp only [fnE] at hx
    split at hx
    · rename_i r hr
      simp at hx; subst hx
      exact hm _ ih f args h v h' hr
    · split at hx
      · rename_i fn hf
        split at hx
        · rename_i c hb
          split at hx
          · rename_i hn hl
            refine fn_intro T hf hb hn (Nat.le_of_ble_eq_true hl) ?_
            split at hx
            · rename_i s hs
              split at hx
              · rename_i u hu
                simp at hx; obtain ⟨rfl, rfl⟩ := hx
                refine (codeE_sound T hmx ih _ _ _ _ _ hs).mono ?_
                rintro _ _ ⟨rfl, rfl⟩
                exact ⟨.inl rfl, _, _, _, hu, Ret.refl _ _ _, rfl, rfl⟩
              · simp at hx
            · rename_i s hs
              split at hx
              · rename_i u hu
                simp at hx; obtain ⟨rfl, rfl⟩ := hx
                refine (codeE_sound T hmx ih _ _ _ _ _ hs).mono ?_
                rintro _ _ ⟨rfl, rfl⟩
                exact ⟨.inr rfl, _, _, _, hu, Ret.refl _ _ _, rfl, rfl⟩
              · simp at hx
            · simp at hx
          · simp at hx
        · simp at hx
      · simp at hx
/-- What is run, of plain arguments. -/
theorem fn_run (T : TyOk P ty) (hmx : P.follows .mixedOrders = true) {n d : Nat} {more : Run → Run} (hm : ∀ run, RunOk P run → RunOk P (more run)) {f : FuncId} {args : List Value} (ha : args.all closed1 = true) {v : Value} (hv : closed1 v = true)
    (h : (fnE P ty n more d f args []).map (fun p => p.1) = some v) (H : Heap) : Fn P f args H fun r g => r = v ∧ g = H := by
  refine Fn.over ha hv ?_ H
  simp only [Option.map_eq_some_iff] at h
  obtain ⟨⟨u, g⟩, h1, rfl⟩ := h
  exact (fnE_sound T hmx hm d f args [] u g h1).mono fun r g h => h.1
/-- Nothing more is known. -/
def noMore : Run → Run := fun _ _ _ _ => none
theorem noMore_ok (run : Run) (_ : RunOk P run) : RunOk P (noMore run) := fun _ _ _ _ _ h => by simp [noMore] at h
end Go.Sx
end
section
/-
  Words of 32 bits: what the model's numbers are, as words; no condition.
-/
namespace Go.Sx
open Go Go.RowKit
@[simp] theorem ne_OPEN (n : Nat) (h : n < 1180591620717411303424) : (n = OPEN) = False := eq_false (by unfold OPEN; omega)
attribute [simp] appV_cap
@[simp] theorem agree_nil (h : Heap) : Agree [] h = True := eq_true fun i b q => by simp [hget] at q
@[simp] theorem agree_cons (b : Option Blk) (h h' : Heap) : Agree (b :: h) (b :: h') = Agree h h' := by
  apply propext
  constructor
  · intro a i c q
    have := a (i + 1) c (by rw [hget_s]; exact q)
    rwa [hget_s] at this
  · intro a i c q
    cases i with
    | zero => rw [hget_0] at *; exact q
    | succ i => rw [hget_s] at *; exact a i c q
/-- Words, as cells. -/
def w32 (l : List UInt32) : List Value := l.map fun x => .int .u32 x.toNat
@[simp] theorem w32_length (l : List UInt32) : (w32 l).length = l.length := by simp [w32]
theorem w32_get (l : List UInt32) (k : Nat) : (w32 l)[k]? = (l[k]?).map fun x => .int .u32 x.toNat := by simp [w32]
@[simp] theorem w32_getE (l : List UInt32) (k : Nat) (h : k < (w32 l).length) : (w32 l)[k] = .int .u32 ((l[k]'(by simpa using h)).toNat : Int) := by simp [w32]
@[simp] theorem req_w32 (l : List UInt32) (k : Nat) (K : Value → Prop) : req (w32 l)[k]? K = (k < l.length ∧ K (.int .u32 (ix l k).toNat)) := by
  rw [w32_get, req_map, req_get]; rfl
theorem w32_set (l : List UInt32) (k : Nat) (x : UInt32) : (w32 l).set k (.int .u32 x.toNat) = w32 (l.set k x) := by simp [w32, List.map_set]
@[simp] theorem w32_take (l : List UInt32) (k : Nat) : (w32 l).take k = w32 (l.take k) := by simp [w32]
@[simp] theorem w32_drop (l : List UInt32) (k : Nat) : (w32 l).drop k = w32 (l.drop k) := by simp [w32]
theorem w32_closed (l : List UInt32) : ∀ x ∈ w32 l, closed1 x = true := by
  intro x hx
  simp only [w32, List.mem_map] at hx
  obtain ⟨b, _, rfl⟩ := hx
  rfl
@[simp] theorem w32_one1 (l : List UInt32) : (w32 l).all one1 = true := by
  rw [List.all_eq_true]
  intro x hx
  simp only [w32, List.mem_map] at hx
  obtain ⟨b, _, rfl⟩ := hx
  rfl
theorem zeros_w32 : ∀ n : Nat, zerosN [.int .u32 0] n = w32 (List.replicate n 0)
  | 0 => rfl
  | n + 1 => by rw [zerosN, zeros_w32 n]; rfl
/-- A number, as a word. -/
def u32n (n : Nat) : UInt32 := UInt32.ofNat n
theorem wrap_u32_nat (n : Nat) : IntKind.u32.wrap (n : Int) = ((u32n n).toNat : Int) := by
  simp [u32n, IntKind.wrap, IntKind.bits, IntKind.signed]
def ad (x y : UInt32) : UInt32 := x + y
def xo (x y : UInt32) : UInt32 := x ^^^ y
def an (x y : UInt32) : UInt32 := x &&& y
def oo (x y : UInt32) : UInt32 := x ||| y
theorem u32_add (x y : UInt32) : IntKind.u32.wrap ((x.toNat : Int) + (y.toNat : Int)) = ((ad x y).toNat : Int) := by
  simp [ad, IntKind.wrap, IntKind.bits, IntKind.signed, UInt32.toNat_add]
theorem u32_xor' (x y : UInt32) : Go.bits .xor .u32 (x.toNat : Int) (y.toNat : Int) = ((xo x y).toNat : Int) := by
  rw [u32_xor_nat _ _ x.toNat_lt y.toNat_lt, xo, UInt32.toNat_xor]
theorem u32_and' (x y : UInt32) : Go.bits .and .u32 (x.toNat : Int) (y.toNat : Int) = ((an x y).toNat : Int) := by
  rw [u32_and_nat _ _ x.toNat_lt y.toNat_lt, an, UInt32.toNat_and]
theorem u32_or' (x y : UInt32) : Go.bits .or .u32 (x.toNat : Int) (y.toNat : Int) = ((oo x y).toNat : Int) := by
  rw [u32_or_nat _ _ x.toNat_lt y.toNat_lt, oo, UInt32.toNat_or]
theorem u32_not' (x : UInt32) : Go.bits .xor .u32 4294967295 (x.toNat : Int) = ((xo 4294967295 x).toNat : Int) := u32_xor' 4294967295 x
theorem u32_mul (x : UInt32) (c : Int) (h : 0 ≤ c) : IntKind.u32.wrap ((x.toNat : Int) * c) = ((u32n (x.toNat * c.toNat)).toNat : Int) := by
  rw [← wrap_u32_nat]
  congr 1
  simp [Int.toNat_of_nonneg h]
theorem u32_div (x : UInt32) (c : Int) (h : 0 < c) : Int.fdiv (x.toNat : Int) c = ((u32n (x.toNat / c.toNat)).toNat : Int) := by
  rw [Int.fdiv_eq_ediv_of_nonneg _ (by omega)]
  have hx := x.toNat_lt
  have h1 : x.toNat / c.toNat ≤ x.toNat := Nat.div_le_self _ _
  rw [u32n, UInt32.toNat_ofNat', Nat.mod_eq_of_lt (by omega)]
  simp [Int.toNat_of_nonneg (Int.le_of_lt h)]
theorem u8_shl (x : UInt8) (c : Int) (h : 0 ≤ c) : IntKind.u32.wrap ((x.toNat : Int) * c) = ((u32n (x.toNat * c.toNat)).toNat : Int) := by
  rw [← wrap_u32_nat]
  congr 1
  simp [Int.toNat_of_nonneg h]
theorem u32_or8 (x : UInt32) (y : UInt8) : Go.bits .or .u32 (x.toNat : Int) (y.toNat : Int) = ((oo x (u32n y.toNat)).toNat : Int) := by
  have h := y.toNat_lt
  have e : (y.toNat : Int) = ((u32n y.toNat).toNat : Int) := by
    rw [u32n, UInt32.toNat_ofNat', Nat.mod_eq_of_lt (by omega)]
  rw [e, u32_or']
/-- To the right. -/
def rotr (x : UInt32) (k : Nat) : UInt32 := u32n (x.toNat / 2 ^ k) ||| u32n (x.toNat * 2 ^ (32 - k))
theorem wrap_shl (x : UInt32) (m : Nat) : IntKind.u32.wrap ((x.toNat : Int) * 2 ^ m) = ((u32n (x.toNat * 2 ^ m)).toNat : Int) := by
  rw [← wrap_u32_nat]; congr 1
theorem fdiv_shr (x : UInt32) (m : Nat) : Int.fdiv (x.toNat : Int) (2 ^ m) = ((u32n (x.toNat / 2 ^ m)).toNat : Int) := by
  have h := u32_div x ((2 ^ m : Nat) : Int) (by exact_mod_cast Nat.two_pow_pos m)
  rw [Int.toNat_natCast] at h
  rw [← h]; simp
theorem rot_a (x : UInt32) (k : Nat) : Go.bits .or .u32 (IntKind.u32.wrap ((x.toNat : Int) * 2 ^ (32 - k))) (Int.fdiv (x.toNat : Int) (2 ^ k)) = ((rotr x k).toNat : Int) := by
  rw [wrap_shl, fdiv_shr, u32_or', rotr, oo, UInt32.or_comm]
theorem rot_b (x : UInt32) (k : Nat) : Go.bits .or .u32 (Int.fdiv (x.toNat : Int) (2 ^ k)) (IntKind.u32.wrap ((x.toNat : Int) * 2 ^ (32 - k))) = ((rotr x k).toNat : Int) := by
  rw [wrap_shl, fdiv_shr, u32_or', rotr, oo]
theorem setL_eq : ∀ (xs cs : List Value) (k : Nat), k + xs.length ≤ cs.length → setL cs k xs = cs.take k ++ xs ++ cs.drop (k + xs.length)
  | [], cs, k, _ => by simp [setL]
  | x :: xs, cs, k, h => by
    simp only [List.length_cons] at h
    rw [setL, setL_eq xs (cs.set k x) (k + 1) (by simp; omega)]
    rw [List.drop_set, if_pos (by omega), List.take_set, List.take_add_one, List.getElem?_eq_getElem (by omega)]
    rw [List.set_append_right _ _ (by simp; omega)]
    simp [Nat.min_eq_left (show k ≤ cs.length by omega), Nat.add_assoc, Nat.add_comm 1]
theorem setL_all (cs xs : List Value) (h : xs.length = cs.length) : setL cs 0 xs = xs := by
  rw [setL_eq xs cs 0 (by omega)]; simp [h]
theorem resC_one {ty : TypeId → Option TD} {s : St} {r : ResultVar} {v : Value} (h : resC1 ty s r = some v) : resC ty [r] s = some v := by
  simp [resC, all2, h]
theorem resC_two {ty : TypeId → Option TD} {s : St} {r q : ResultVar} {v u : Value} (h : resC1 ty s r = some v) (h' : resC1 ty s q = some u) : resC ty [r, q] s = some (.tuple #[v, u]) := by
  simp [resC, all2, h, h']
@[simp] theorem resC1_tmp (ty : TypeId → Option TD) (s : St) (t : Tmp) : resC1 ty s (.tmp t) = ev true s.tm (.tmp t) := nd rfl
@[simp] theorem resC1_cell (ty : TypeId → Option TD) (s : St) (a : Tmp) (t : TypeId) : resC1 ty s (.cell a t) = (ty t).bind fun d => (ev true s.tm (.tmp a)).bind fun p => loadC d s.h p := nd rfl
/-- Bytes that are filled from the front on. -/
def front (f : Nat → UInt8) (n i : Nat) : List UInt8 := (List.range i).map f ++ List.replicate (n - i) 0
theorem front_length (f : Nat → UInt8) (n i : Nat) (h : i ≤ n) : (front f n i).length = n := by simp [front]; omega
theorem front_set (f : Nat → UInt8) (n i : Nat) (h : i < n) : (front f n i).set i (f i) = front f n (i + 1) := front_step f 0 n i h
theorem front_full (f : Nat → UInt8) (n : Nat) : front f n n = (List.range n).map f := by simp [front]
theorem front_zero (f : Nat → UInt8) (n : Nat) : front f n 0 = List.replicate n 0 := by simp [front]
/-- What is told back as it is, whatever the numbers of blocks. -/
def closedV (v : Value) : Bool :=
  match v with
  | .agg xs => xs.toList.all closed1
  | .tuple xs => xs.toList.all closed1
  | v => closed1 v
theorem VR.closedV_inv {ι : List Place} {v y : Value} (h : VR ι v y) (hc : closedV v = true) : y = v := by
  unfold closedV at hc
  split at hc
  · obtain ⟨ys, rfl, r⟩ := h.agg_inv
    rw [Array.ext' (r.closed_inv (fun x hx => List.all_eq_true.1 hc x hx))]
  · obtain ⟨ys, rfl, r⟩ := h.tuple_inv
    rw [Array.ext' (r.closed_inv (fun x hx => List.all_eq_true.1 hc x hx))]
  · exact h.closed_inv hc
theorem VR.closedV {ι : List Place} {v : Value} (hc : closedV v = true) : VR ι v v := by
  unfold Sx.closedV at hc
  split at hc
  · exact VR.agg' (VRs.closed fun x hx => List.all_eq_true.1 hc x hx)
  · exact VR.tuple' (VRs.closed fun x hx => List.all_eq_true.1 hc x hx)
  · exact .same _ hc
theorem closedV_within {v : Value} (hc : closedV v = true) (n : Nat) : Scoped n v := by
  unfold closedV at hc
  split at hc
  · exact .agg _ fun x hx => .same x (List.all_eq_true.1 hc x hx)
  · exact .tuple _ fun x hx => .same x (List.all_eq_true.1 hc x hx)
  · exact .same _ hc
/-- A plain answer: with nothing of the call's own. -/
theorem Ret.plain {H L : Heap} {v : Value} (hv : closedV v = true) : Ret H v (H ++ L) v H := Ret.app0 (closedV_within hv _) rfl fun _ _ hb => .inl hb
theorem closedV_agg {l : List Value} (h : ∀ x ∈ l, closed1 x = true) : closedV (.agg l.toArray) = true := by
  simp only [closedV]
  exact List.all_eq_true.2 h
theorem plain_w32 (l : List UInt32) : closedV (.agg (w32 l).toArray) = true := closedV_agg (w32_closed l)
theorem plain_u8s (l : List UInt8) : closedV (.agg (u8s l).toArray) = true := closedV_agg (u8s_closed l)
variable {P : Program} {ty : TypeId → Option TD}
theorem Fn.overV {f : FuncId} {args : List Value} (ha : args.all closedV = true) {v : Value} (hv : closedV v = true) (h : Fn P f args [] fun r _ => r = v) (H : Heap) : Fn P f args H fun r g => r = v ∧ g = H := by
  refine ⟨h.1, fun ι w args' RH r => ?_⟩
  have hr : VRs [] args args' := by
    have : args' = args := by
      clear h
      induction args generalizing args' with
      | nil => cases args' with
        | nil => rfl
        | cons _ _ => exact r.elim
      | cons x xs ih => cases args' with
        | nil => exact r.elim
        | cons y ys =>
          simp only [List.all_cons, Bool.and_eq_true] at ha
          rw [r.1.closedV_inv ha.1, ih ha.2 ys r.2]
    subst this
    clear r h
    induction args' with
    | nil => trivial
    | cons x xs ih =>
      simp only [List.all_cons, Bool.and_eq_true] at ha
      exact ⟨VR.closedV ha.1, ih ha.2⟩
  refine Calls.mono (h.2 [] w args' ⟨rfl, fun i b hb => by simp [hget] at hb, fun i j b c p q hb => by simp [hget] at hb⟩ hr) ?_
  rintro e w' ⟨κ, u, y, h', rfl, rfl, hv', _, g⟩
  have b : Below w.heap.size w w' := below_of g fun i b hb => by simp [hget] at hb
  obtain rfl := hv'.closedV_inv hv
  exact ⟨ι, _, _, H, ⟨rfl, rfl⟩, rfl, VR.closedV hv, RH.below b, Below.grow b⟩
/-- A function of plain values may be walked over no heap. -/
theorem fn_plain {f : FuncId} {args : List Value} (ha : args.all closedV = true) {v : Value} (hv : closedV v = true) {R : Value → Heap → Prop} (h : Fn P f args [] R) (hR : ∀ r g, R r g → r = v) (H : Heap) : Fn P f args H fun r g => r = v ∧ g = H :=
  Fn.overV ha hv (h.mono hR) H
theorem fn_runV (T : TyOk P ty) (hmx : P.follows .mixedOrders = true) {n d : Nat} {more : Run → Run} (hm : ∀ run, RunOk P run → RunOk P (more run)) {f : FuncId} {args : List Value} (ha : args.all closedV = true) {v : Value} (hv : closedV v = true)
    (h : (fnE P ty n more d f args []).map (fun p => p.1) = some v) (H : Heap) : Fn P f args H fun r g => r = v ∧ g = H := by
  refine Fn.overV ha hv ?_ H
  simp only [Option.map_eq_some_iff] at h
  obtain ⟨⟨u, g⟩, h1, rfl⟩ := h
  exact (fnE_sound T hmx hm d f args [] u g h1).mono fun r g h => h.1
end Go.Sx
end
