/-
  Sx, part AX: what is of a type, in plain words. Own words; no condition.
-/
import Derived.Test.YtfefdjomenfchaaSxAW
namespace Go.Sx
open Go
variable {P : Program}
theorem wf_bnd {k : IntKind} {n : Int} (w : (Lit.int k n).wf = true) : k.min ≤ n ∧ n ≤ k.max := by
  simpa only [Lit.wf, Bool.and_eq_true, decide_eq_true_eq] using w
/-- Whole numbers of a kind. -/
def ints (k : IntKind) (l : List Int) : List Value := l.map fun n => .int k n
@[simp] theorem ints_length (k : IntKind) (l : List Int) : (ints k l).length = l.length := by simp [ints]
theorem int_list {k : IntKind} : ∀ (l : List Value), (∀ j, j < l.length → ∃ n, (l.drop j).take 1 = [.int k n] ∧ (Lit.int k n).wf = true) → ∃ ns : List Int, l = ints k ns ∧ ∀ n ∈ ns, k.min ≤ n ∧ n ≤ k.max
  | [], _ => ⟨[], rfl, fun _ h => by cases h⟩
  | x :: r, h => by
    obtain ⟨n, h1, h2⟩ := h 0 (by simp)
    simp at h1; subst h1
    obtain ⟨ns, hb, hw⟩ := int_list r fun j hj => by simpa using h (j + 1) (by simpa using hj)
    subst hb
    refine ⟨n :: ns, rfl, fun m hm => ?_⟩
    rcases List.mem_cons.1 hm with rfl | hm
    · exact wf_bnd h2
    · exact hw m hm
theorem typ_ints {h : Heap} {t e : TypeId} {n : Nat} {k : IntKind} (hu : P.underlying t = some (.array n e)) (he : P.underlying e = some (.int k)) (hc : P.cellsOf t = n) (ce : P.cellsOf e = 1) {f : Nat} {cs : List Value} (q : Typ P h (f + 2) t cs) : ∃ l : List Int, l.length = n ∧ cs = ints k l ∧ ∀ m ∈ l, k.min ≤ m ∧ m ≤ k.max := by
  unfold Typ at q
  rw [hu] at q
  simp only at q
  obtain ⟨hl, q⟩ := q
  rw [hc] at hl
  simp only [ce, Nat.mul_one] at q
  obtain ⟨ns, rfl, hw⟩ := int_list cs fun j hj => by
    have := q j (by omega)
    unfold Typ at this
    rw [he] at this
    exact this
  exact ⟨ns, by simpa using hl, rfl, hw⟩
theorem ints_u8 : ∀ (l : List Int), (∀ m ∈ l, IntKind.u8.min ≤ m ∧ m ≤ IntKind.u8.max) → ints .u8 l = u8s (l.map fun m => UInt8.ofNat m.toNat)
  | [], _ => rfl
  | m :: l, h => by
    have h1 := h m (by simp)
    have ih := ints_u8 l fun k hk => h k (by simp [hk])
    simp only [ints, u8s, List.map_cons, List.cons.injEq, Value.int.injEq, true_and] at *
    refine ⟨?_, ih⟩
    simp [IntKind.min, IntKind.max, IntKind.bits, IntKind.signed] at h1
    simp; omega
theorem ints_u32 : ∀ (l : List Int), (∀ m ∈ l, IntKind.u32.min ≤ m ∧ m ≤ IntKind.u32.max) → ints .u32 l = w32 (l.map fun m => UInt32.ofNat m.toNat)
  | [], _ => rfl
  | m :: l, h => by
    have h1 := h m (by simp)
    have ih := ints_u32 l fun k hk => h k (by simp [hk])
    simp only [ints, w32, List.map_cons, List.cons.injEq, Value.int.injEq, true_and] at *
    refine ⟨?_, ih⟩
    simp [IntKind.min, IntKind.max, IntKind.bits, IntKind.signed] at h1
    simp; omega
theorem typV_arr {h : Heap} {t e : TypeId} {n : Nat} {f : Nat} {x : Value} (hu : P.underlying t = some (.array n e)) (q : TypV P h f t x) : ∃ cs : List Value, x = .agg cs.toArray ∧ Typ P h f t cs := by
  unfold TypV at q
  rw [hu] at q
  simp only at q
  obtain ⟨cs, rfl, q⟩ := q
  exact ⟨cs.toList, by simp, q⟩
theorem typV_struct {h : Heap} {t : TypeId} {fs : Array Field} {f : Nat} {x : Value} (hu : P.underlying t = some (.struct fs)) (q : TypV P h f t x) : ∃ cs : List Value, x = .agg cs.toArray ∧ Typ P h f t cs := by
  unfold TypV at q
  rw [hu] at q
  simp only at q
  obtain ⟨cs, rfl, q⟩ := q
  exact ⟨cs.toList, by simp, q⟩
/-- Bytes of an array; words of one. -/
theorem typV_u8s {h : Heap} {t e : TypeId} {n : Nat} (hu : P.underlying t = some (.array n e)) (he : P.underlying e = some (.int .u8)) (hc : P.cellsOf t = n) (ce : P.cellsOf e = 1) {f : Nat} {x : Value} (q : TypV P h (f + 2) t x) : ∃ l : List UInt8, l.length = n ∧ x = .agg (u8s l).toArray := by
  obtain ⟨cs, rfl, q'⟩ := typV_arr hu q
  obtain ⟨l, h1, rfl, h2⟩ := typ_ints hu he hc ce q'
  exact ⟨l.map fun m => UInt8.ofNat m.toNat, by simp [h1], by rw [ints_u8 l h2]⟩
theorem typV_w32 {h : Heap} {t e : TypeId} {n : Nat} (hu : P.underlying t = some (.array n e)) (he : P.underlying e = some (.int .u32)) (hc : P.cellsOf t = n) (ce : P.cellsOf e = 1) {f : Nat} {x : Value} (q : TypV P h (f + 2) t x) : ∃ l : List UInt32, l.length = n ∧ x = .agg (w32 l).toArray := by
  obtain ⟨cs, rfl, q'⟩ := typV_arr hu q
  obtain ⟨l, h1, rfl, h2⟩ := typ_ints hu he hc ce q'
  exact ⟨l.map fun m => UInt32.ofNat m.toNat, by simp [h1], by rw [ints_u32 l h2]⟩
theorem typ_int1 {h : Heap} {t : TypeId} {k : IntKind} {f : Nat} {cs : List Value} (hu : P.underlying t = some (.int k)) (q : Typ P h (f + 1) t cs) : ∃ n, cs = [.int k n] ∧ k.min ≤ n ∧ n ≤ k.max := by
  unfold Typ at q
  rw [hu] at q
  obtain ⟨n, h1, h2⟩ := q
  exact ⟨n, h1, wf_bnd h2⟩
theorem typ_bool1 {h : Heap} {t : TypeId} {f : Nat} {cs : List Value} (hu : P.underlying t = some .bool) (q : Typ P h (f + 1) t cs) : ∃ b, cs = [.bool b] := by
  unfold Typ at q
  rw [hu] at q
  exact q
theorem typV_int {h : Heap} {t : TypeId} {k : IntKind} {f : Nat} {x : Value} (hu : P.underlying t = some (.int k)) (q : TypV P h (f + 1) t x) : ∃ n, x = .int k n ∧ k.min ≤ n ∧ n ≤ k.max := by
  unfold TypV at q
  rw [hu] at q
  obtain ⟨n, h1, h2⟩ := typ_int1 hu q
  exact ⟨n, by simpa using h1, h2⟩
theorem typV_bool {h : Heap} {t : TypeId} {f : Nat} {x : Value} (hu : P.underlying t = some .bool) (q : TypV P h (f + 1) t x) : ∃ b, x = .bool b := by
  unfold TypV at q
  rw [hu] at q
  obtain ⟨n, h1⟩ := typ_bool1 hu q
  exact ⟨n, by simpa using h1⟩
theorem typV_bytes {h : Heap} {m : Nat} {t e : TypeId} {x : Value} (ht : P.underlying t = some (.slice e)) (he : P.underlying e = some (.int .u8)) (hc : P.cellsOf e = 1) (q : TypV P h (m + 2) t x) :
    ∃ (bs : List UInt8) (a : Option Addr) (cap : Nat), x = .slice a bs.length cap ∧ bs.length ≤ maxLen ∧ Row h a bs.length cap (u8s bs) := typ_bytes ht he hc q
@[simp] theorem hget_newkp (H L : Heap) (k p : Nat) : hget (H ++ L) (H.length + k + p) = hget L (p + k) := by rw [Nat.add_assoc, Nat.add_comm k p]; exact hget_append_new
@[simp] theorem hset_newkp (H L : Heap) (k p : Nat) (b : Option Blk) : (H ++ L).set (H.length + k + p) b = H ++ L.set (p + k) b := by rw [Nat.add_assoc, Nat.add_comm k p, hset_newk]
@[simp] theorem agree_pre' (H A B : Heap) : Agree (H ++ A) (H ++ B) = Agree A B := by
  apply propext
  constructor
  · intro q i b h
    have := q (H.length + i) b (by rw [hget_append_new]; exact h)
    rwa [hget_append_new] at this
  · intro q i b h
    by_cases hi : i < H.length
    · rw [hget_append hi] at h ⊢; exact h
    · obtain ⟨k, rfl⟩ : ∃ k, i = H.length + k := ⟨i - H.length, by omega⟩
      rw [hget_append_new] at h ⊢
      exact q k b h
/-- A call whose answer is known. -/
theorem CallK.is {f : FuncId} {args : List Value} {h h' : Heap} {v : Value} {dst : Option Tmp} {tm : List (Nat × Ent)} {K : St → Prop} (hf : Fn P f args h fun r g => r = v ∧ g = h') (hk : K ⟨put dst (.v v) tm, h'⟩) : CallK P f args h dst tm K :=
  CallK.of hf fun _ _ ⟨a, b⟩ => by rw [a, b]; exact hk
/-! Equality, cell by cell. -/
def isK (k : IntKind) : Value → Bool
  | .int k' _ => decide (k' = k)
  | _ => false
@[simp] theorem isK_int (k k' : IntKind) (n : Int) : isK k (.int k' n) = decide (k' = k) := rfl
theorem flatEq_ints {k : IntKind} : ∀ (zs : List Value) (l m : List Int), zs.all (isK k) = true → l.length = zs.length → m.length = zs.length → flatEq zs (ints k l) (ints k m) = some (l == m)
  | [], l, m, _, h1, h2 => by
    cases List.eq_nil_of_length_eq_zero h1
    cases List.eq_nil_of_length_eq_zero h2
    rfl
  | z :: zs, a :: l, b :: m, h, h1, h2 => by
    simp only [List.all_cons, Bool.and_eq_true] at h
    have ih := flatEq_ints zs l m h.2 (by simpa using h1) (by simpa using h2)
    obtain ⟨z0, z1⟩ := h
    cases z with
    | int k' n =>
      simp at z0; subst z0
      simp only [ints, List.map_cons] at ih ⊢
      rw [flatEq, if_pos ⟨rfl, rfl⟩, ih]
      rfl
    | _ => simp [isK] at z0
  | z :: zs, [], m, _, h1, _ => by simp at h1
  | z :: zs, _ :: _, [], _, _, h2 => by simp at h2
theorem u8s_ints (l : List UInt8) : u8s l = ints .u8 (l.map fun b => (b.toNat : Int)) := by simp [u8s, ints]
theorem w32_ints (l : List UInt32) : w32 l = ints .u32 (l.map fun b => (b.toNat : Int)) := by simp [w32, ints]
theorem beq_map {α β : Type} [BEq α] [LawfulBEq α] [BEq β] [LawfulBEq β] {f : α → β} (hf : ∀ x y, f x = f y → x = y) (l m : List α) : (l.map f == m.map f) = (l == m) := by
  rw [Bool.eq_iff_iff]
  simp only [beq_iff_eq]
  constructor
  · intro h
    induction l generalizing m with
    | nil => cases m <;> first | rfl | simp at h
    | cons a l ih =>
      cases m with
      | nil => simp at h
      | cons b m =>
        simp only [List.map_cons, List.cons.injEq] at h
        rw [hf a b h.1, ih m h.2]
  · rintro rfl; rfl
theorem flatEq_u8 (zs : List Value) (l m : List UInt8) (h : zs.all (isK .u8) = true) (h1 : l.length = zs.length) (h2 : m.length = zs.length) : flatEq zs (u8s l) (u8s m) = some (l == m) := by
  rw [u8s_ints, u8s_ints, flatEq_ints zs _ _ h (by simpa using h1) (by simpa using h2), beq_map fun x y e => UInt8.toNat_inj.1 (by omega)]
theorem flatEq_w32 (zs : List Value) (l m : List UInt32) (h : zs.all (isK .u32) = true) (h1 : l.length = zs.length) (h2 : m.length = zs.length) : flatEq zs (w32 l) (w32 m) = some (l == m) := by
  rw [w32_ints, w32_ints, flatEq_ints zs _ _ h (by simpa using h1) (by simpa using h2), beq_map fun x y e => UInt32.toNat_inj.1 (by omega)]
/-- What is equal to itself. -/
theorem flatEq_app : ∀ {zs xs ys : List Value} {b : Bool} {zs' xs' ys' : List Value} {b' : Bool}, flatEq zs xs ys = some b → flatEq zs' xs' ys' = some b' → flatEq (zs ++ zs') (xs ++ xs') (ys ++ ys') = some (b && b')
  | [], [], [], b, _, _, _, b', h, h' => by simp [flatEq] at h; subst h; simpa using h'
  | z :: zs, x :: xs, y :: ys, b, zs', xs', ys', b', h, h' => by
    have key : ∀ c : Bool, (flatEq zs xs ys).map (fun r => c && r) = some b → (flatEq (zs ++ zs') (xs ++ xs') (ys ++ ys')).map (fun r => c && r) = some (b && b') := by
      intro c hc
      simp only [Option.map_eq_some_iff] at hc
      obtain ⟨r, hr, rfl⟩ := hc
      rw [flatEq_app hr h']
      simp [Bool.and_assoc]
    cases z <;> cases x <;> cases y <;> simp only [flatEq, reduceCtorEq, List.cons_append] at h ⊢
    · exact key _ h
    · split at h
      · rename_i hk; rw [if_pos hk]; exact key _ h
      · simp at h
    · exact key _ h
  | [], x :: xs, _, _, _, _, _, _, h, _ => by simp [flatEq] at h
  | [], [], y :: ys, _, _, _, _, _, h, _ => by simp [flatEq] at h
  | z :: zs, [], _, _, _, _, _, _, h, _ => by cases z <;> simp [flatEq] at h
  | z :: zs, x :: xs, [], _, _, _, _, _, h, _ => by cases z <;> cases x <;> simp [flatEq] at h
end Go.Sx
