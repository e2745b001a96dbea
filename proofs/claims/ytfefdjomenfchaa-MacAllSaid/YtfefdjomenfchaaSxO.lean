/-
  Sx, part O: what an argument is, after its type: cells over blocks that are only read. Own words; no condition.
-/
import Derived.Test.YtfefdjomenfchaaSxW
import Derived.OpenShut
import Derived.ChangeArms
namespace Go.Sx
open Go Go.RowKit
variable {P : Program}
/-- What cells of a type are, over a heap: f steps deep at most. -/
def Typ (P : Program) (h : Heap) : Nat → TypeId → List Value → Prop
  | 0, _, _ => False
  | f + 1, t, cs =>
    match P.underlying t with
    | some .bool => ∃ b, cs = [.bool b]
    | some (.int k) => ∃ n, cs = [.int k n] ∧ (Lit.int k n).wf = true
    | some .string => ∃ s, cs = [.string s] ∧ s.size ≤ maxLen
    | some (.slice e) => cs = [.slice none 0 0] ∨ ∃ i len cap l, cs = [.slice (some ⟨i, 0, none⟩) len cap] ∧ len ≤ cap ∧ cap ≤ maxLen ∧ hget h i = some (.cells l false 0) ∧ l.length = cap * P.cellsOf e ∧
        ∀ j, j < cap → Typ P h f e ((l.drop (j * P.cellsOf e)).take (P.cellsOf e))
    | some (.struct fs) => cs.length = P.cellsOf t ∧ ∀ (j : Nat) (fd : Field), fs[j]? = some fd → Typ P h f fd.type ((cs.drop fd.offset).take (P.cellsOf fd.type))
    | some (.array n e) => cs.length = P.cellsOf t ∧ ∀ j, j < n → Typ P h f e ((cs.drop (j * P.cellsOf e)).take (P.cellsOf e))
    | _ => False
/-- Parts (of a type, from a cell on) that stand one behind the other. -/
def tilesB (P : Program) (tot : Nat) : Nat → List (TypeId × Nat) → Bool
  | off, [] => off == tot
  | off, (t, o) :: r => o == off && tilesB P tot (off + P.cellsOf t) r
def fparts (fs : Array Field) : List (TypeId × Nat) := fs.toList.map fun (f : Field) => (f.type, f.offset)
def aparts (P : Program) (e : TypeId) (n : Nat) : List (TypeId × Nat) := (List.range n).map fun j => (e, j * P.cellsOf e)
/-- Types of which cells are told so: f steps deep. -/
def plainT (P : Program) : Nat → TypeId → Bool
  | 0, _ => false
  | f + 1, t =>
    match P.underlying t with
    | some .bool => true
    | some (.int _) => true
    | some .string => true
    | some (.slice e) => decide (0 < P.cellsOf e) && plainT P f e
    | some (.struct fs) => tilesB P (P.cellsOf t) 0 (fparts fs) && (fparts fs).all fun p => plainT P f p.1
    | some (.array n e) => P.cellsOf t == n * P.cellsOf e && plainT P f e
    | _ => false
/-- Blocks that are only read. -/
def ReadOnly (ι : List Place) (h : Heap) (w : World) : Prop := ι.length = h.length ∧ ∀ i b, hget h i = some b → owns b = false ∧ ∃ p, ι[i]? = some p ∧ BlkR ι w p b
theorem Typ.mono {h h' : Heap} (a : Agree h h') : ∀ {f : Nat} {t : TypeId} {cs : List Value}, Typ P h f t cs → Typ P h' f t cs
  | 0, _, _, q => q
  | f + 1, t, cs, q => by
    unfold Typ at *
    split at q
    · exact q
    · exact q
    · exact q
    · rcases q with q | ⟨i, len, cap, l, h1, h2, h3, h4, h5, h6⟩
      · exact .inl q
      · exact .inr ⟨i, len, cap, l, h1, h2, h3, a i _ h4, h5, fun j hj => Typ.mono a (h6 j hj)⟩
    · exact ⟨q.1, fun j fd hf => Typ.mono a (q.2 j fd hf)⟩
    · exact ⟨q.1, fun j hj => Typ.mono a (q.2 j hj)⟩
    · exact q
/-- How far a heap of such blocks has come. -/
structure More (ι : List Place) (h : Heap) (κ : List Place) (h' : Heap) : Prop where
  pre : ι <+: κ
  agree : Agree h h'
  len : h.length ≤ h'.length
theorem More.refl (ι : List Place) (h : Heap) : More ι h ι h := ⟨List.prefix_refl _, Agree.refl _, Nat.le_refl _⟩
theorem More.trans {a b c : List Place} {x y z : Heap} (p : More a x b y) (q : More b y c z) : More a x c z := ⟨p.pre.trans q.pre, p.agree.trans q.agree, Nat.le_trans p.len q.len⟩
theorem BlkR.mono' {ι κ : List Place} (h : ι <+: κ) {w : World} {p : Place} {b : Blk} (r : BlkR ι w p b) : BlkR κ w p b := by
  cases b with
  | cells cs o u =>
    obtain ⟨h1, h2, h3⟩ := r
    exact ⟨fun k x hx => let ⟨y, hy, hv⟩ := h1 k x hx; ⟨y, hy, hv.mono h⟩, h2, h3⟩
  | void u => exact r
  | map es c =>
    obtain ⟨es', h1, h2⟩ := r
    exact ⟨es', h1, h2.mono h⟩
theorem VRs.parts {ι : List Place} {n z : Nat} : ∀ {xs ys : List Value}, xs.length = n * z → ys.length = n * z → (∀ j, j < n → VRs ι ((xs.drop (j * z)).take z) ((ys.drop (j * z)).take z)) → VRs ι xs ys := by
  induction n with
  | zero =>
    intro xs ys h1 h2 _
    rw [Nat.zero_mul] at h1 h2
    rw [List.eq_nil_of_length_eq_zero h1, List.eq_nil_of_length_eq_zero h2]; trivial
  | succ n ih =>
    intro xs ys h1 h2 h
    have e1 : xs = xs.take z ++ xs.drop z := (List.take_append_drop z xs).symm
    have e2 : ys = ys.take z ++ ys.drop z := (List.take_append_drop z ys).symm
    rw [e1, e2]
    rw [Nat.succ_mul] at h1 h2
    refine VRs.append (by simpa using h 0 (by omega)) (ih (by simp; omega) (by simp; omega) fun j hj => ?_)
    have := h (j + 1) (by omega)
    rw [List.drop_drop, List.drop_drop, show z + j * z = (j + 1) * z by rw [Nat.succ_mul]; omega]
    exact this
/-- Elements of one size, laid in a row. -/
theorem row_of {z n : Nat} {xss : List (List Value)} (hl : xss.length = n) (hz : ∀ xs ∈ xss, xs.length = z) : xss.flatten.length = n * z ∧ ∀ j xs, xss[j]? = some xs → (xss.flatten.drop (j * z)).take z = xs := by
  induction xss generalizing n with
  | nil => simp at hl; subst hl; simp
  | cons x r ih =>
    have hx : x.length = z := hz x (by simp)
    obtain ⟨h1, h2⟩ := ih (n := r.length) rfl fun xs hxs => hz xs (by simp [hxs])
    simp at hl; subst hl
    refine ⟨by simp [h1, hx, Nat.succ_mul]; omega, fun j xs hj => ?_⟩
    cases j with
    | zero => simp at hj; subst hj; simp [← hx]
    | succ j =>
      simp at hj
      rw [List.flatten_cons, List.drop_append, List.drop_eq_nil_of_le (by rw [Nat.succ_mul]; omega), List.nil_append, show (j + 1) * z - x.length = j * z by rw [Nat.succ_mul]; omega]
      exact h2 j xs hj
theorem cells_all {w : World} {a : Addr} {n : Nat} {l : List Value} (h : w.cells? 0 a n = some l) : l.length = n ∧ ∀ i v, l[i]? = some v → w.cell? (a.add i) = some v := by
  unfold World.cells? at h
  rw [if_pos (Nat.zero_le _)] at h
  refine ⟨by simpa using mapM_some_length h, fun i v hv => ?_⟩
  have hlen : l.length = n := by simpa using mapM_some_length h
  have hi : i < n := by rw [← hlen]; exact (List.getElem?_eq_some_iff.1 hv).1
  rw [mapM_some_get h i i (by simp [hi])]; exact hv

theorem addr_add' (a : Addr) (i k : Nat) : (a.add i).add k = a.add (i + k) := by
  unfold Addr.add
  by_cases hi : i = 0
  · subst hi; simp
  · by_cases hk : k = 0
    · subst hk; simp
    · rw [if_neg hk, if_neg hi, if_neg (by omega)]
      simp only [Addr.mk.injEq, and_true, true_and]; omega
theorem tilesB_le {tot : Nat} : ∀ {ps : List (TypeId × Nat)} {off : Nat}, tilesB P tot off ps = true → off ≤ tot
  | [], off, h => by simp [tilesB] at h; omega
  | (t, o) :: r, off, h => by
    simp only [tilesB, Bool.and_eq_true] at h
    have := tilesB_le h.2
    omega
theorem tile {κ : List Place} {cs : List Value} : ∀ (ps : List (TypeId × Nat)) (off : Nat) (xss : List (List Value)), tilesB P cs.length off ps = true → xss.length = ps.length →
    (∀ (j : Nat) xs p, xss[j]? = some xs → ps[j]? = some p → VRs κ xs ((cs.drop p.2).take (P.cellsOf p.1))) →
    VRs κ xss.flatten (cs.drop off) ∧ ∀ (j : Nat) xs p, xss[j]? = some xs → ps[j]? = some p → off ≤ p.2 ∧ (xss.flatten.drop (p.2 - off)).take (P.cellsOf p.1) = xs
  | [], off, xss, ht, hl, _ => by
    simp only [tilesB, beq_iff_eq] at ht
    have : xss = [] := List.eq_nil_of_length_eq_zero (by simpa using hl)
    subst this; subst ht
    exact ⟨by simp [VRs], fun j xs p hx => by simp at hx⟩
  | (t, o) :: r, off, xss, ht, hl, h => by
    simp only [tilesB, Bool.and_eq_true, beq_iff_eq] at ht
    obtain ⟨rfl, ht⟩ := ht
    cases xss with
    | nil => simp at hl
    | cons x xss =>
      have hle := tilesB_le ht
      have hx := h 0 x (t, o) rfl rfl
      have hxl : x.length = P.cellsOf t := by
        rw [hx.length, List.length_take, List.length_drop]; simp only; omega
      obtain ⟨h1, h2⟩ := tile r (o + P.cellsOf t) xss ht (by simpa using hl) fun j xs p a b => h (j + 1) xs p (by simpa using a) (by simpa using b)
      refine ⟨?_, fun j xs p a b => ?_⟩
      · rw [List.flatten_cons, ← List.take_append_drop (P.cellsOf t) (cs.drop o), List.drop_drop]
        exact VRs.append hx h1
      · cases j with
        | zero =>
          simp at a b; subst a; subst b
          refine ⟨Nat.le_refl _, ?_⟩
          simp only [Nat.sub_self, List.drop_zero, List.flatten_cons]
          rw [← hxl]; simp
        | succ j =>
          simp at a b
          obtain ⟨q1, q2⟩ := h2 j xs p a b
          refine ⟨by omega, ?_⟩
          rw [List.flatten_cons, List.drop_append, List.drop_eq_nil_of_le (by omega), List.nil_append, hxl, Nat.sub_sub]
          exact q2
theorem aparts_tile {e : TypeId} {n tot : Nat} (h : tot = n * P.cellsOf e) : tilesB P tot 0 (aparts P e n) = true := by
  have key : ∀ (k j : Nat), j + k = n → tilesB P tot (j * P.cellsOf e) ((List.range' j k).map fun j => (e, j * P.cellsOf e)) = true := by
    intro k
    induction k with
    | zero => intro j hj; obtain rfl : j = n := by omega
              simp [tilesB, h]
    | succ k ih =>
      intro j hj
      rw [List.range'_succ, List.map_cons]
      simp only [tilesB, Bool.and_eq_true, beq_self_eq_true, true_and]
      rw [← Nat.succ_mul]
      exact ih (j + 1) (by omega)
  have := key n 0 (by omega)
  rw [Nat.zero_mul] at this
  rw [aparts, List.range_eq_range']
  exact this
/-- Where there is a slice that is not nil, there is memory. -/
def HasMem (w : World) (cs : List Value) : Prop := (∃ a l n, Value.slice (some a) l n ∈ cs) → 0 < w.heap.size
theorem HasMem.sub {w : World} {cs l : List Value} (h : HasMem w cs) (q : ∀ x ∈ l, x ∈ cs) : HasMem w l := fun ⟨a, k, n, hm⟩ => h ⟨a, k, n, q _ hm⟩
theorem hasMem_cell {w : World} {r : Reach} {base : Nat} {t : TypeId} {a : Addr} {l n : Nat} (h : Cell.okWide P w r base t (.slice (some a) l n)) : 0 < w.heap.size := by
  have key : ∀ e, w.has P r base a e n → 0 < w.heap.size := by
    rintro e ⟨_, _, row, cells, hs, _⟩
    unfold World.shape? at hs
    split at hs
    · rename_i hx
      have := (Array.getElem?_eq_some_iff.1 hx).1
      omega
    · simp at hs
  unfold Cell.okWide at h
  split at h
  all_goals first | (rename_i hv; cases hv; done) | skip
  all_goals
    unfold Cell.ok at h
    split at h
  all_goals first | exact h.elim | (rename_i hv; cases hv; done) | skip
  all_goals
    rename_i hv
    cases hv
    exact key _ h.2.2
/-- Cells that are read as data, told by a heap of blocks that are only read. -/
theorem open_typ {H : Type} {enc : TypeId × Value → H} {w : World} : ∀ (m : Nat) {t : TypeId} {fuel : Nat} {cs : List Value} {x : DataW H × List MemPlace}, DataW.trod enc P w 0 (fun _ => true) true fuel t cs = some x → plainT P m t = true → HasMem w cs → ∀ ι h, ReadOnly ι h w →
    ∃ κ h' cs0, ReadOnly κ h' w ∧ More ι h κ h' ∧ VRs κ cs0 cs ∧ Typ P h' m t cs0 := by
  intro m
  induction m with
  | zero => intro t fuel cs x _ hp; simp [plainT] at hp
  | succ m ih =>
    intro t fuel cs x ht hp hz ι h R
    have built : ∀ (ps : List (TypeId × Nat)), (∀ (j : Nat) p, ps[j]? = some p → ∃ n y, DataW.trod enc P w 0 (fun _ => true) true n p.1 ((cs.drop p.2).take (P.cellsOf p.1)) = some y ∧ plainT P m p.1 = true) → ∀ ι h, ReadOnly ι h w →
        ∃ κ h', ∃ xss : List (List Value), ReadOnly κ h' w ∧ More ι h κ h' ∧ xss.length = ps.length ∧ ∀ (j : Nat) xs p, xss[j]? = some xs → ps[j]? = some p → VRs κ xs ((cs.drop p.2).take (P.cellsOf p.1)) ∧ Typ P h' m p.1 xs := by
      intro ps
      induction ps with
      | nil => intro _ ι h R; exact ⟨ι, h, [], R, .refl _ _, rfl, fun j xs p hx => by simp at hx⟩
      | cons p ps ihp =>
        intro he ι h R
        obtain ⟨n, y, hy, hpl⟩ := he 0 p rfl
        obtain ⟨κ, h1, xs, R1, m1, hv, htp⟩ := ih hy hpl (hz.sub fun x hx => List.mem_of_mem_drop (List.mem_of_mem_take hx)) ι h R
        obtain ⟨μ, h2, xss, R2, m2, hl2, hx⟩ := ihp (fun j q hj => he (j + 1) q (by simpa using hj)) κ h1 R1
        refine ⟨μ, h2, xs :: xss, R2, m1.trans m2, by simp [hl2], fun j ys q a b => ?_⟩
        cases j with
        | zero => simp at a b; subst a; subst b; exact ⟨hv.mono m2.pre, htp.mono m2.agree⟩
        | succ j => exact hx j ys q (by simpa using a) (by simpa using b)
    unfold plainT at hp
    split at hp
    · rename_i hu
      obtain ⟨b, rfl, _⟩ := DataW.trod_bool hu ht
      exact ⟨ι, h, [.bool b], R, .refl _ _, ⟨.same _ rfl, trivial⟩, by unfold Typ; rw [hu]; exact ⟨b, rfl⟩⟩
    · rename_i k hu
      obtain ⟨n, rfl, _, hw⟩ := DataW.trod_int hu ht
      exact ⟨ι, h, [.int k n], R, .refl _ _, ⟨.same _ rfl, trivial⟩, by unfold Typ; rw [hu]; exact ⟨n, rfl, hw⟩⟩
    · rename_i hu
      obtain ⟨s, rfl, _, hw⟩ := DataW.trod_string hu ht
      exact ⟨ι, h, [.string s], R, .refl _ _, ⟨.same _ rfl, trivial⟩, by unfold Typ; rw [hu]; exact ⟨s, rfl, hw⟩⟩
    · rename_i e hu
      rcases DataW.trod_slice hu ht with ⟨rfl, _⟩ | ⟨a, len, cap, elems, rest, n, _, rfl, _, _, hl, hm, hlen, hel, hsp, _⟩
      · exact ⟨ι, h, [.slice none 0 0], R, .refl _ _, ⟨.same _ rfl, trivial⟩, by unfold Typ; rw [hu]; exact .inl rfl⟩
      · obtain ⟨hrl, hr⟩ := hsp rfl
        have each : ∀ j, j < cap → ∃ l y, w.cells? 0 (a.add (j * P.cellsOf e)) (P.cellsOf e) = some l ∧ DataW.trod enc P w 0 (fun _ => true) true n e l = some y := by
          intro j hj
          have hy : ∃ y, (w.cells? 0 (a.add (j * P.cellsOf e)) (P.cellsOf e)).bind (DataW.trod enc P w 0 (fun _ => true) true n e) = some y := by
            by_cases hjl : j < len
            · rw [hel j hjl]; exact ⟨elems[j]'(by omega), by simp [hlen, hjl]⟩
            · have := hr (j - len) (by omega)
              rw [show len + (j - len) = j by omega] at this
              rw [this]
              exact ⟨rest[j - len]'(by omega), by simp⟩
          obtain ⟨y, hy⟩ := hy
          simp only [Option.bind_eq_some_iff] at hy
          obtain ⟨l, h1, h2⟩ := hy
          exact ⟨l, y, h1, h2⟩
        simp only [Bool.and_eq_true, decide_eq_true_eq] at hp
        have hmem : 0 < w.heap.size := hz ⟨a, len, cap, by simp⟩
        -- the elements, one by one
        have parts : ∀ n', n' ≤ cap → ∃ κ h', ∃ xss : List (List Value), ReadOnly κ h' w ∧ More ι h κ h' ∧ xss.length = n' ∧ ∀ j xs, xss[j]? = some xs → ∃ l, w.cells? 0 (a.add (j * P.cellsOf e)) (P.cellsOf e) = some l ∧ VRs κ xs l ∧ Typ P h' m e xs := by
          intro n'
          induction n' with
          | zero => intro _; exact ⟨ι, h, [], R, .refl _ _, rfl, fun j xs hx => by simp at hx⟩
          | succ n' ihn =>
            intro hn'
            obtain ⟨κ, h1, xss, R1, m1, hl1, hx⟩ := ihn (by omega)
            obtain ⟨l, y, hc, hy⟩ := each n' (by omega)
            obtain ⟨μ, h2, xs, R2, m2, hv, htp⟩ := ih hy hp.2 (fun _ => hmem) κ h1 R1
            refine ⟨μ, h2, xss ++ [xs], R2, m1.trans m2, by simp [hl1], fun j ys hj => ?_⟩
            by_cases hjn : j < n'
            · rw [List.getElem?_append_left (by omega)] at hj
              obtain ⟨l', a1, a2, a3⟩ := hx j ys hj
              exact ⟨l', a1, a2.mono m2.pre, a3.mono m2.agree⟩
            · have hjj : j = n' := by
                have := (List.getElem?_eq_some_iff.1 hj).1
                simp [hl1] at this; omega
              subst hjj
              rw [List.getElem?_append_right (by omega), hl1, Nat.sub_self] at hj
              simp at hj; subst hj
              exact ⟨l, hc, hv, htp⟩
        obtain ⟨κ, h1, xss, R1, m1, hl1, hx⟩ := parts cap (Nat.le_refl _)
        have hz' : ∀ xs ∈ xss, xs.length = P.cellsOf e := by
          intro xs hxs
          obtain ⟨j, hj, rfl⟩ := List.getElem_of_mem hxs
          obtain ⟨l, a1, a2, _⟩ := hx j xss[j] (by simp [hj])
          rw [a2.length]; exact (cells_all a1).1
        obtain ⟨hfl, hfe⟩ := row_of hl1 hz'
        have hcell : ∀ k x, xss.flatten[k]? = some x → ∃ y, w.cell? (a.add k) = some y ∧ VR κ x y := by
          intro k x hk
          have hklt : k < cap * P.cellsOf e := by rw [← hfl]; exact (List.getElem?_eq_some_iff.1 hk).1
          have hpos : 0 < P.cellsOf e := hp.1
          have hj : k / P.cellsOf e < cap := (Nat.div_lt_iff_lt_mul hpos).2 hklt
          obtain ⟨xs, hxs⟩ : ∃ xs, xss[k / P.cellsOf e]? = some xs := ⟨xss[k / P.cellsOf e]'(by omega), by simp [hl1, hj]⟩
          obtain ⟨l, a1, a2, _⟩ := hx _ xs hxs
          have hdm := Nat.div_add_mod k (P.cellsOf e)
          have hmod : k % P.cellsOf e < P.cellsOf e := Nat.mod_lt _ hpos
          have hkx : xs[k % P.cellsOf e]? = some x := by
            rw [← hfe _ xs hxs, List.getElem?_take_of_lt hmod, List.getElem?_drop, ← hk]
            congr 1
            rw [Nat.mul_comm]; exact hdm
          obtain ⟨y, hy, hv⟩ := a2.get' hkx
          refine ⟨y, ?_, hv⟩
          have := (cells_all a1).2 _ y hy
          rw [← this, addr_add', Nat.mul_comm (k / P.cellsOf e), hdm]
        by_cases h0 : cap = 0
        · subst h0
          have hl0 : len = 0 := by omega
          subst hl0
          refine ⟨κ ++ [⟨0, 0, 0, 0⟩], h1 ++ [some (.cells [] false 0)], [.slice (some ⟨h1.length, 0, none⟩) 0 0], ?_, ⟨m1.pre.trans (List.prefix_append _ _), m1.agree.trans fun _ _ q => hget_old q _, by have := m1.len; simp; omega⟩, ⟨.sliceZ _ _ ⟨0, 0, 0, 0⟩ _ (by rw [← R1.1]; simp), trivial⟩, ?_⟩
          · refine ⟨by simp [R1.1], fun i b hb => ?_⟩
            by_cases hi : i < h1.length
            · rw [hget_append hi] at hb
              obtain ⟨a1, p, a2, a3⟩ := R1.2 i b hb
              exact ⟨a1, p, by rw [List.getElem?_append_left (by rw [R1.1]; exact hi)]; exact a2, a3.mono' (List.prefix_append _ _)⟩
            · have hlt := hget_lt hb
              have : i = h1.length := by simp at hlt; omega
              subst this
              simp at hb; subst hb
              exact ⟨rfl, ⟨0, 0, 0, 0⟩, by rw [← R1.1]; simp, fun k x hk => by simp at hk, hmem, fun ho => by cases ho⟩
          · unfold Typ; rw [hu]
            exact .inr ⟨h1.length, 0, 0, [], rfl, Nat.le_refl _, by omega, by simp, by simp, fun j hj => by omega⟩
        · have hc0 : 0 < cap := by omega
          obtain ⟨v0, hv0⟩ : ∃ v0, xss.flatten[0]? = some v0 := by
            have : 0 < xss.flatten.length := by rw [hfl]; exact Nat.mul_pos hc0 hp.1
            exact ⟨xss.flatten[0], by simp [this]⟩
          obtain ⟨y0, hy0, _⟩ := hcell 0 v0 hv0
          have ha0 : a.add 0 = a := by simp [Addr.add]
          rw [ha0] at hy0
          have hsp : a = ⟨a.block, a.off, none⟩ := by
            unfold World.cell? at hy0
            split at hy0
            · split at hy0
              · simp at hy0
              · rename_i hs
                obtain ⟨b, o, sp⟩ := a
                cases sp with
                | none => rfl
                | some _ => simp at hs
            · simp at hy0
          have hblk : a.block < w.heap.size := by
            unfold World.cell? at hy0
            split at hy0
            · rename_i hx; exact (Array.getElem?_eq_some_iff.1 hx).1
            · simp at hy0
          have hcap : cap ≠ OPEN := by
            have : maxLen < OPEN := by decide +kernel
            omega
          refine ⟨κ ++ [⟨a.block, a.off, 0, 0⟩], h1 ++ [some (.cells xss.flatten false 0)], [.slice (some ⟨h1.length, 0, none⟩) len cap], ?_, ⟨m1.pre.trans (List.prefix_append _ _), m1.agree.trans fun _ _ q => hget_old q _, by have := m1.len; simp; omega⟩, ⟨?_, trivial⟩, ?_⟩
          · refine ⟨by simp [R1.1], fun i b hb => ?_⟩
            by_cases hi : i < h1.length
            · rw [hget_append hi] at hb
              obtain ⟨a1, p, a2, a3⟩ := R1.2 i b hb
              exact ⟨a1, p, by rw [List.getElem?_append_left (by rw [R1.1]; exact hi)]; exact a2, a3.mono' (List.prefix_append _ _)⟩
            · have hlt := hget_lt hb
              have : i = h1.length := by simp at hlt; omega
              subst this
              simp at hb; subst hb
              refine ⟨rfl, ⟨a.block, a.off, 0, 0⟩, by rw [← R1.1]; simp, fun k x hk => ?_, hblk, fun ho => by cases ho⟩
              obtain ⟨y, hy, hv⟩ := hcell k x hk
              refine ⟨y, ?_, hv.mono (List.prefix_append _ _)⟩
              rw [hsp, addr_add] at hy; exact hy
          · have e : Value.slice (some a) len cap = .slice (some ⟨a.block, a.off + 0, none⟩) len cap := by rw [Nat.add_zero, ← hsp]
            rw [e]
            exact .slice h1.length 0 len cap ⟨a.block, a.off, 0, 0⟩ (by rw [← R1.1]; simp) hcap
          · unfold Typ; rw [hu]
            refine .inr ⟨h1.length, len, cap, xss.flatten, rfl, hl, hm, by simp, hfl, fun j hj => ?_⟩
            obtain ⟨xs, hxs⟩ : ∃ xs, xss[j]? = some xs := ⟨xss[j]'(by omega), by simp [hl1, hj]⟩
            obtain ⟨l, _, _, a3⟩ := hx j xs hxs
            rw [hfe j xs hxs]
            exact a3.mono fun _ _ q => hget_old q _
    · rename_i fs hu
      obtain ⟨xs, n, _, _, hlen, _, hf⟩ := DataW.trod_struct hu ht
      simp only [Bool.and_eq_true, List.all_eq_true] at hp
      obtain ⟨κ, h1, xss, R1, m1, hl1, hx⟩ := built (fparts fs) (fun j p hj => by
        obtain ⟨fd, hfd, rfl⟩ : ∃ fd, fs[j]? = some fd ∧ p = (fd.type, fd.offset) := by
          simp only [fparts, List.getElem?_map, Option.map_eq_some_iff, Array.getElem?_toList] at hj
          obtain ⟨fd, h1, h2⟩ := hj
          exact ⟨fd, h1, h2.symm⟩
        obtain ⟨y, hy⟩ : ∃ y, xs[j]? = some y := by
          have hj' := (Array.getElem?_eq_some_iff.1 hfd).1
          exact ⟨xs[j]'(by omega), by simp⟩
        exact ⟨n, y, by rw [hf j fd hfd]; exact hy, hp.2 _ (List.mem_of_getElem? hj)⟩) ι h R
      obtain ⟨t1, t2⟩ := tile (cs := cs) (fparts fs) 0 xss (by rw [hlen]; exact hp.1) hl1 fun j xs p a b => (hx j xs p a b).1
      refine ⟨κ, h1, xss.flatten, R1, m1, by simpa using t1, ?_⟩
      unfold Typ; rw [hu]
      refine ⟨by rw [t1.length, List.drop_zero]; exact hlen, fun j fd hfd => ?_⟩
      have hpj : (fparts fs)[j]? = some (fd.type, fd.offset) := by simp [fparts, hfd]
      obtain ⟨ys, hys⟩ : ∃ ys, xss[j]? = some ys := by
        have hj' := (List.getElem?_eq_some_iff.1 hpj).1
        exact ⟨xss[j]'(by omega), by simp⟩
      have := (t2 j ys _ hys hpj).2
      simp only [Nat.sub_zero] at this
      rw [this]
      exact (hx j ys _ hys hpj).2
    · rename_i n e hu
      obtain ⟨xs, n', _, _, hlen, hxl, hf⟩ := DataW.trod_array hu ht
      simp only [Bool.and_eq_true, beq_iff_eq] at hp
      obtain ⟨κ, h1, xss, R1, m1, hl1, hx⟩ := built (aparts P e n) (fun j p hj => by
        have hjn : j < n := by have := (List.getElem?_eq_some_iff.1 hj).1; simpa [aparts] using this
        obtain rfl : p = (e, j * P.cellsOf e) := by simp [aparts, hjn] at hj; exact hj.symm
        exact ⟨n', xs[j]'(by omega), by rw [hf j hjn]; simp, hp.2⟩) ι h R
      obtain ⟨t1, t2⟩ := tile (cs := cs) (aparts P e n) 0 xss (aparts_tile (by rw [hlen]; exact hp.1)) hl1 fun j xs p a b => (hx j xs p a b).1
      refine ⟨κ, h1, xss.flatten, R1, m1, by simpa using t1, ?_⟩
      unfold Typ; rw [hu]
      refine ⟨by rw [t1.length, List.drop_zero]; exact hlen, fun j hj => ?_⟩
      have hpj : (aparts P e n)[j]? = some (e, j * P.cellsOf e) := by simp [aparts, hj]
      obtain ⟨ys, hys⟩ : ∃ ys, xss[j]? = some ys := by
        have hj' := (List.getElem?_eq_some_iff.1 hpj).1
        exact ⟨xss[j]'(by omega), by simp⟩
      have := (t2 j ys _ hys hpj).2
      simp only [Nat.sub_zero] at this
      rw [this]
      exact (hx j ys _ hys hpj).2
    · simp at hp

/-- What an argument is. -/
def TypV (P : Program) (h : Heap) (m : Nat) (t : TypeId) (x : Value) : Prop :=
  match P.underlying t with
  | some (.struct _) => ∃ cs, x = .agg cs ∧ Typ P h m t cs.toList
  | some (.array _ _) => ∃ cs, x = .agg cs ∧ Typ P h m t cs.toList
  | _ => Typ P h m t [x]
theorem TypV.mono {h h' : Heap} (a : Agree h h') {m : Nat} {t : TypeId} {x : Value} (q : TypV P h m t x) : TypV P h' m t x := by
  unfold TypV at *
  split at q
  · obtain ⟨cs, h1, h2⟩ := q; exact ⟨cs, h1, h2.mono a⟩
  · obtain ⟨cs, h1, h2⟩ := q; exact ⟨cs, h1, h2.mono a⟩
  · exact q.mono a
theorem hasMem_row {w : World} {r : Reach} {base : Nat} {t : TypeId} {cs : Array Value} (h : Row.okWide P w r base t cs) : HasMem w cs.toList := by
  rintro ⟨a, l, n, hm⟩
  obtain ⟨i, hi, he⟩ := List.getElem_of_mem hm
  obtain ⟨ts, _, _, h3⟩ := h
  obtain ⟨u, _, hu⟩ := h3 i _ (by rw [Array.getElem?_eq_getElem (by simpa using hi)])
  have : cs[i]'(by simpa using hi) = .slice (some a) l n := by rw [← he]; simp
  rw [this] at hu
  exact hasMem_cell hu
theorem open_arg {H : Type} {enc : TypeId × Value → H} {W : World} {base : Nat} {m : Nat} {t : TypeId} {v : Value} {d : DataW H} {ps : List MemPlace} (hp : plainT P m t = true) (hok : Value.okWide P W .any base t v) (ht : DataW.Trod enc P W 0 (fun _ => true) true t v d ps)
    (ι : List Place) (h : Heap) (R : ReadOnly ι h W) : ∃ κ h' x, ReadOnly κ h' W ∧ More ι h κ h' ∧ VR κ x v ∧ TypV P h' m t x := by
  obtain ⟨fuel, hf⟩ := ht
  unfold Value.okWide at hok
  split at hok
  · rename_i fs hu
    obtain ⟨cs, rfl, _, hr⟩ := hok
    obtain ⟨κ, h', cs0, R', m', hv, htp⟩ := open_typ m hf hp (hasMem_row hr) ι h R
    exact ⟨κ, h', .agg cs0.toArray, R', m', VR.agg' (by simpa [Value.cells] using hv), by unfold TypV; rw [hu]; exact ⟨_, rfl, htp⟩⟩
  · rename_i n e hu
    obtain ⟨cs, rfl, _, hr⟩ := hok
    obtain ⟨κ, h', cs0, R', m', hv, htp⟩ := open_typ m hf hp (hasMem_row hr) ι h R
    exact ⟨κ, h', .agg cs0.toArray, R', m', VR.agg' (by simpa [Value.cells] using hv), by unfold TypV; rw [hu]; exact ⟨_, rfl, htp⟩⟩
  · rename_i hns hna
    have hagg : ∀ cs, v ≠ .agg cs := by
      rintro cs rfl
      unfold Cell.okWide at hok
      split at hok
      all_goals first | (rename_i hv; cases hv; done) | skip
      all_goals
        unfold Cell.ok at hok
        split at hok
      all_goals first | exact hok.elim | (rename_i hv; cases hv; done)
    have hcells : v.cells.toList = [v] := by
      cases v <;> first | rfl | exact absurd rfl (hagg _)
    rw [hcells] at hf
    have hmem : HasMem W [v] := by
      rintro ⟨a, l, n, hm⟩
      simp at hm; subst hm
      exact hasMem_cell hok
    obtain ⟨κ, h', cs0, R', m', hv, htp⟩ := open_typ m hf hp hmem ι h R
    match cs0, hv with
    | [x], ⟨hx, _⟩ =>
      refine ⟨κ, h', x, R', m', hx, ?_⟩
      unfold TypV
      split
      · rename_i fs hu; exact absurd hu (hns fs)
      · rename_i n e hu; exact absurd hu (hna n e)
      · exact htp
theorem readOnly_nil (w : World) : ReadOnly [] [] w := ⟨rfl, fun i b hb => by simp [hget] at hb⟩
/-- A law's run: it returns true, and nothing that stood has turned. -/
theorem law_runT {f : FuncId} {args args' : List Value} {h : Heap} {ι : List Place} {w : World} (R : ReadOnly ι h w) (hv : VRs ι args args') (hf : Fn P f args h fun v _ => v = .bool true) :
    Calls P f args'.toArray w fun e w' => e = .returned (.bool true) ∧ Below w.heap.size w w' :=
  law_run hf R.1 R.2 hv
/-! ### Words for what is of a type -/
theorem u8_list : ∀ (l : List Value), (∀ j, j < l.length → ∃ n, (l.drop j).take 1 = [.int .u8 n] ∧ (Lit.int .u8 n).wf = true) → ∃ bs : List UInt8, l = u8s bs
  | [], _ => ⟨[], rfl⟩
  | x :: r, h => by
    obtain ⟨n, h1, h2⟩ := h 0 (by simp)
    simp at h1; subst h1
    obtain ⟨bs, hb⟩ := u8_list r fun j hj => by simpa using h (j + 1) (by simpa using hj)
    simp only [Lit.wf, IntKind.min, IntKind.max, IntKind.signed, IntKind.bits, Bool.and_eq_true, decide_eq_true_eq] at h2
    refine ⟨UInt8.ofNat n.toNat :: bs, ?_⟩
    subst hb
    simp only [u8s, List.map_cons, List.cons.injEq, Value.int.injEq, and_true, true_and]
    simp at h2 ⊢
    omega
/-- A row of bytes. -/
theorem typ_bytes {h : Heap} {m : Nat} {t e : TypeId} {x : Value} (ht : P.underlying t = some (.slice e)) (he : P.underlying e = some (.int .u8)) (hc : P.cellsOf e = 1) (q : TypV P h (m + 2) t x) :
    ∃ (bs : List UInt8) (a : Option Addr) (cap : Nat), x = .slice a bs.length cap ∧ bs.length ≤ maxLen ∧ Row h a bs.length cap (u8s bs) := by
  unfold TypV at q
  rw [ht] at q
  simp only at q
  unfold Typ at q
  rw [ht] at q
  simp only [hc, Nat.mul_one] at q
  have hO : maxLen < OPEN := by decide +kernel
  rcases q with q | ⟨i, len, cap, l, h1, h2, h3, h4, h5, h6⟩
  · simp at q; subst q
    exact ⟨[], none, 0, rfl, Nat.zero_le _, rfl, by omega, Nat.le_refl _, .inl ⟨rfl, rfl, rfl⟩⟩
  · simp at h1; subst h1
    obtain ⟨bs, rfl⟩ := u8_list l fun j hj => by
      have := h6 j (by omega)
      unfold Typ at this
      rw [he] at this
      exact this
    have hbl : bs.length = cap := by simpa using h5
    refine ⟨bs.take len, some ⟨i, 0, none⟩, cap, by simp [hbl, h2], by simp; omega, by simp, by omega, by simp; omega, .inr ⟨i, 0, u8s bs, false, 0, rfl, h4, by simp; omega, ?_⟩⟩
    simp [hbl, h2]
end Go.Sx
