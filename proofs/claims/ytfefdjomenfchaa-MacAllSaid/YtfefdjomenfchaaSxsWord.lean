/-
  Words of 32 bits: what the model's numbers are, as words; no condition.
-/
import Derived.Test.YtfefdjomenfchaaSxT
namespace Go.Sx
open Go Go.RowKit
@[simp] theorem ne_OPEN (n : Nat) (h : n < 1180591620717411303424) : (n = OPEN) = False := eq_false (by unfold OPEN; omega)
attribute [simp] appV_cap
@[simp] theorem agree_nil (h : Heap) : Agree [] h = True := eq_true fun i b q => by simp [hget] at q
@[simp] theorem agree_cons (b : Option Blk) (h h' : Heap) : Agree (b :: h) (b :: h') = Agree h h' := by
  apply propext
  constructor
  · intro a i c q
    have := a (i + 1) c (by rw [hget_s]; exact q)
    rwa [hget_s] at this
  · intro a i c q
    cases i with
    | zero => rw [hget_0] at *; exact q
    | succ i => rw [hget_s] at *; exact a i c q
/-- Words, as cells. -/
def w32 (l : List UInt32) : List Value := l.map fun x => .int .u32 x.toNat
@[simp] theorem w32_length (l : List UInt32) : (w32 l).length = l.length := by simp [w32]
theorem w32_get (l : List UInt32) (k : Nat) : (w32 l)[k]? = (l[k]?).map fun x => .int .u32 x.toNat := by simp [w32]
@[simp] theorem w32_getE (l : List UInt32) (k : Nat) (h : k < (w32 l).length) : (w32 l)[k] = .int .u32 ((l[k]'(by simpa using h)).toNat : Int) := by simp [w32]
@[simp] theorem req_w32 (l : List UInt32) (k : Nat) (K : Value → Prop) : req (w32 l)[k]? K = (k < l.length ∧ K (.int .u32 (ix l k).toNat)) := by
  rw [w32_get, req_map, req_get]; rfl
theorem w32_set (l : List UInt32) (k : Nat) (x : UInt32) : (w32 l).set k (.int .u32 x.toNat) = w32 (l.set k x) := by simp [w32, List.map_set]
@[simp] theorem w32_take (l : List UInt32) (k : Nat) : (w32 l).take k = w32 (l.take k) := by simp [w32]
@[simp] theorem w32_drop (l : List UInt32) (k : Nat) : (w32 l).drop k = w32 (l.drop k) := by simp [w32]
theorem w32_closed (l : List UInt32) : ∀ x ∈ w32 l, closed1 x = true := by
  intro x hx
  simp only [w32, List.mem_map] at hx
  obtain ⟨b, _, rfl⟩ := hx
  rfl
@[simp] theorem w32_one1 (l : List UInt32) : (w32 l).all one1 = true := by
  rw [List.all_eq_true]
  intro x hx
  simp only [w32, List.mem_map] at hx
  obtain ⟨b, _, rfl⟩ := hx
  rfl
theorem zeros_w32 : ∀ n : Nat, zerosN [.int .u32 0] n = w32 (List.replicate n 0)
  | 0 => rfl
  | n + 1 => by rw [zerosN, zeros_w32 n]; rfl
/-- A number, as a word. -/
def u32n (n : Nat) : UInt32 := UInt32.ofNat n
theorem wrap_u32_nat (n : Nat) : IntKind.u32.wrap (n : Int) = ((u32n n).toNat : Int) := by
  simp [u32n, IntKind.wrap, IntKind.bits, IntKind.signed]
def ad (x y : UInt32) : UInt32 := x + y
def xo (x y : UInt32) : UInt32 := x ^^^ y
def an (x y : UInt32) : UInt32 := x &&& y
def oo (x y : UInt32) : UInt32 := x ||| y
theorem u32_add (x y : UInt32) : IntKind.u32.wrap ((x.toNat : Int) + (y.toNat : Int)) = ((ad x y).toNat : Int) := by
  simp [ad, IntKind.wrap, IntKind.bits, IntKind.signed, UInt32.toNat_add]
theorem u32_xor' (x y : UInt32) : Go.bits .xor .u32 (x.toNat : Int) (y.toNat : Int) = ((xo x y).toNat : Int) := by
  rw [u32_xor_nat _ _ x.toNat_lt y.toNat_lt, xo, UInt32.toNat_xor]
theorem u32_and' (x y : UInt32) : Go.bits .and .u32 (x.toNat : Int) (y.toNat : Int) = ((an x y).toNat : Int) := by
  rw [u32_and_nat _ _ x.toNat_lt y.toNat_lt, an, UInt32.toNat_and]
theorem u32_or' (x y : UInt32) : Go.bits .or .u32 (x.toNat : Int) (y.toNat : Int) = ((oo x y).toNat : Int) := by
  rw [u32_or_nat _ _ x.toNat_lt y.toNat_lt, oo, UInt32.toNat_or]
theorem u32_not' (x : UInt32) : Go.bits .xor .u32 4294967295 (x.toNat : Int) = ((xo 4294967295 x).toNat : Int) := u32_xor' 4294967295 x
theorem u32_mul (x : UInt32) (c : Int) (h : 0 ≤ c) : IntKind.u32.wrap ((x.toNat : Int) * c) = ((u32n (x.toNat * c.toNat)).toNat : Int) := by
  rw [← wrap_u32_nat]
  congr 1
  simp [Int.toNat_of_nonneg h]
theorem u32_div (x : UInt32) (c : Int) (h : 0 < c) : Int.fdiv (x.toNat : Int) c = ((u32n (x.toNat / c.toNat)).toNat : Int) := by
  rw [Int.fdiv_eq_ediv_of_nonneg _ (by omega)]
  have hx := x.toNat_lt
  have h1 : x.toNat / c.toNat ≤ x.toNat := Nat.div_le_self _ _
  rw [u32n, UInt32.toNat_ofNat', Nat.mod_eq_of_lt (by omega)]
  simp [Int.toNat_of_nonneg (Int.le_of_lt h)]
theorem u8_shl (x : UInt8) (c : Int) (h : 0 ≤ c) : IntKind.u32.wrap ((x.toNat : Int) * c) = ((u32n (x.toNat * c.toNat)).toNat : Int) := by
  rw [← wrap_u32_nat]
  congr 1
  simp [Int.toNat_of_nonneg h]
theorem u32_or8 (x : UInt32) (y : UInt8) : Go.bits .or .u32 (x.toNat : Int) (y.toNat : Int) = ((oo x (u32n y.toNat)).toNat : Int) := by
  have h := y.toNat_lt
  have e : (y.toNat : Int) = ((u32n y.toNat).toNat : Int) := by
    rw [u32n, UInt32.toNat_ofNat', Nat.mod_eq_of_lt (by omega)]
  rw [e, u32_or']
/-- To the right. -/
def rotr (x : UInt32) (k : Nat) : UInt32 := u32n (x.toNat / 2 ^ k) ||| u32n (x.toNat * 2 ^ (32 - k))
theorem wrap_shl (x : UInt32) (m : Nat) : IntKind.u32.wrap ((x.toNat : Int) * 2 ^ m) = ((u32n (x.toNat * 2 ^ m)).toNat : Int) := by
  rw [← wrap_u32_nat]; congr 1
theorem fdiv_shr (x : UInt32) (m : Nat) : Int.fdiv (x.toNat : Int) (2 ^ m) = ((u32n (x.toNat / 2 ^ m)).toNat : Int) := by
  have h := u32_div x ((2 ^ m : Nat) : Int) (by exact_mod_cast Nat.two_pow_pos m)
  rw [Int.toNat_natCast] at h
  rw [← h]; simp
theorem rot_a (x : UInt32) (k : Nat) : Go.bits .or .u32 (IntKind.u32.wrap ((x.toNat : Int) * 2 ^ (32 - k))) (Int.fdiv (x.toNat : Int) (2 ^ k)) = ((rotr x k).toNat : Int) := by
  rw [wrap_shl, fdiv_shr, u32_or', rotr, oo, UInt32.or_comm]
theorem rot_b (x : UInt32) (k : Nat) : Go.bits .or .u32 (Int.fdiv (x.toNat : Int) (2 ^ k)) (IntKind.u32.wrap ((x.toNat : Int) * 2 ^ (32 - k))) = ((rotr x k).toNat : Int) := by
  rw [wrap_shl, fdiv_shr, u32_or', rotr, oo]
theorem setL_eq : ∀ (xs cs : List Value) (k : Nat), k + xs.length ≤ cs.length → setL cs k xs = cs.take k ++ xs ++ cs.drop (k + xs.length)
  | [], cs, k, _ => by simp [setL]
  | x :: xs, cs, k, h => by
    simp only [List.length_cons] at h
    rw [setL, setL_eq xs (cs.set k x) (k + 1) (by simp; omega)]
    rw [List.drop_set, if_pos (by omega), List.take_set, List.take_add_one, List.getElem?_eq_getElem (by omega)]
    rw [List.set_append_right _ _ (by simp; omega)]
    simp [Nat.min_eq_left (show k ≤ cs.length by omega), Nat.add_assoc, Nat.add_comm 1]
theorem setL_all (cs xs : List Value) (h : xs.length = cs.length) : setL cs 0 xs = xs := by
  rw [setL_eq xs cs 0 (by omega)]; simp [h]
theorem resC_one {ty : TypeId → Option TD} {s : St} {r : ResultVar} {v : Value} (h : resC1 ty s r = some v) : resC ty [r] s = some v := by
  simp [resC, all2, h]
theorem resC_two {ty : TypeId → Option TD} {s : St} {r q : ResultVar} {v u : Value} (h : resC1 ty s r = some v) (h' : resC1 ty s q = some u) : resC ty [r, q] s = some (.tuple #[v, u]) := by
  simp [resC, all2, h, h']
@[simp] theorem resC1_tmp (ty : TypeId → Option TD) (s : St) (t : Tmp) : resC1 ty s (.tmp t) = ev true s.tm (.tmp t) := nd rfl
@[simp] theorem resC1_cell (ty : TypeId → Option TD) (s : St) (a : Tmp) (t : TypeId) : resC1 ty s (.cell a t) = (ty t).bind fun d => (ev true s.tm (.tmp a)).bind fun p => loadC d s.h p := nd rfl
/-- Bytes that are filled from the front on. -/
def front (f : Nat → UInt8) (n i : Nat) : List UInt8 := (List.range i).map f ++ List.replicate (n - i) 0
theorem front_length (f : Nat → UInt8) (n i : Nat) (h : i ≤ n) : (front f n i).length = n := by simp [front]; omega
theorem front_set (f : Nat → UInt8) (n i : Nat) (h : i < n) : (front f n i).set i (f i) = front f n (i + 1) := front_step f 0 n i h
theorem front_full (f : Nat → UInt8) (n : Nat) : front f n n = (List.range n).map f := by simp [front]
theorem front_zero (f : Nat → UInt8) (n : Nat) : front f n 0 = List.replicate n 0 := by simp [front]
/-- What is told back as it is, whatever the numbers of blocks. -/
def closedV (v : Value) : Bool :=
  match v with
  | .agg xs => xs.toList.all closed1
  | .tuple xs => xs.toList.all closed1
  | v => closed1 v
theorem VR.closedV_inv {ι : List Place} {v y : Value} (h : VR ι v y) (hc : closedV v = true) : y = v := by
  unfold closedV at hc
  split at hc
  · obtain ⟨ys, rfl, r⟩ := h.agg_inv
    rw [Array.ext' (r.closed_inv (fun x hx => List.all_eq_true.1 hc x hx))]
  · obtain ⟨ys, rfl, r⟩ := h.tuple_inv
    rw [Array.ext' (r.closed_inv (fun x hx => List.all_eq_true.1 hc x hx))]
  · exact h.closed_inv hc
theorem VR.closedV {ι : List Place} {v : Value} (hc : closedV v = true) : VR ι v v := by
  unfold Sx.closedV at hc
  split at hc
  · exact VR.agg' (VRs.closed fun x hx => List.all_eq_true.1 hc x hx)
  · exact VR.tuple' (VRs.closed fun x hx => List.all_eq_true.1 hc x hx)
  · exact .same _ hc
theorem closedV_within {v : Value} (hc : closedV v = true) (n : Nat) : Scoped n v := by
  unfold closedV at hc
  split at hc
  · exact .agg _ fun x hx => .same x (List.all_eq_true.1 hc x hx)
  · exact .tuple _ fun x hx => .same x (List.all_eq_true.1 hc x hx)
  · exact .same _ hc
/-- A plain answer: with nothing of the call's own. -/
theorem Ret.plain {H L : Heap} {v : Value} (hv : closedV v = true) : Ret H v (H ++ L) v H := Ret.app0 (closedV_within hv _) rfl fun _ _ hb => .inl hb
theorem closedV_agg {l : List Value} (h : ∀ x ∈ l, closed1 x = true) : closedV (.agg l.toArray) = true := by
  simp only [closedV]
  exact List.all_eq_true.2 h
theorem plain_w32 (l : List UInt32) : closedV (.agg (w32 l).toArray) = true := closedV_agg (w32_closed l)
theorem plain_u8s (l : List UInt8) : closedV (.agg (u8s l).toArray) = true := closedV_agg (u8s_closed l)
variable {P : Program} {ty : TypeId → Option TD}
theorem Fn.overV {f : FuncId} {args : List Value} (ha : args.all closedV = true) {v : Value} (hv : closedV v = true) (h : Fn P f args [] fun r _ => r = v) (H : Heap) : Fn P f args H fun r g => r = v ∧ g = H := by
  refine ⟨h.1, fun ι w args' RH r => ?_⟩
  have hr : VRs [] args args' := by
    have : args' = args := by
      clear h
      induction args generalizing args' with
      | nil => cases args' with
        | nil => rfl
        | cons _ _ => exact r.elim
      | cons x xs ih => cases args' with
        | nil => exact r.elim
        | cons y ys =>
          simp only [List.all_cons, Bool.and_eq_true] at ha
          rw [r.1.closedV_inv ha.1, ih ha.2 ys r.2]
    subst this
    clear r h
    induction args' with
    | nil => trivial
    | cons x xs ih =>
      simp only [List.all_cons, Bool.and_eq_true] at ha
      exact ⟨VR.closedV ha.1, ih ha.2⟩
  refine Calls.mono (h.2 [] w args' ⟨rfl, fun i b hb => by simp [hget] at hb, fun i j b c p q hb => by simp [hget] at hb⟩ hr) ?_
  rintro e w' ⟨κ, u, y, h', rfl, rfl, hv', _, g⟩
  have b : Below w.heap.size w w' := below_of g fun i b hb => by simp [hget] at hb
  obtain rfl := hv'.closedV_inv hv
  exact ⟨ι, _, _, H, ⟨rfl, rfl⟩, rfl, VR.closedV hv, RH.below b, Below.grow b⟩
/-- A function of plain values may be walked over no heap. -/
theorem fn_plain {f : FuncId} {args : List Value} (ha : args.all closedV = true) {v : Value} (hv : closedV v = true) {R : Value → Heap → Prop} (h : Fn P f args [] R) (hR : ∀ r g, R r g → r = v) (H : Heap) : Fn P f args H fun r g => r = v ∧ g = H :=
  Fn.overV ha hv (h.mono hR) H
theorem fn_runV (T : TyOk P ty) (hmx : P.follows .mixedOrders = true) {n d : Nat} {more : Run → Run} (hm : ∀ run, RunOk P run → RunOk P (more run)) {f : FuncId} {args : List Value} (ha : args.all closedV = true) {v : Value} (hv : closedV v = true)
    (h : (fnE P ty n more d f args []).map (fun p => p.1) = some v) (H : Heap) : Fn P f args H fun r g => r = v ∧ g = H := by
  refine Fn.overV ha hv ?_ H
  simp only [Option.map_eq_some_iff] at h
  obtain ⟨⟨u, g⟩, h1, rfl⟩ := h
  exact (fnE_sound T hmx hm d f args [] u g h1).mono fun r g h => h.1
end Go.Sx
