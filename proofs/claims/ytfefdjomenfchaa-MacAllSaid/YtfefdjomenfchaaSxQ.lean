/-
  Sx, part Q: what the walks use. Own words; no condition.
-/
import Derived.Test.YtfefdjomenfchaaSxR
import Derived.Laws.BitsAllLaws
import Derived.Laws.Bits64
import Derived.Laws.Bits64b
namespace Go.Sx
open Go
variable {P : Program} {ty : TypeId → Option TD} {N : Nat}

/-- A function, from its body's beginning: with nothing said of how it ends but by Q. -/
theorem fn_start (T : TyOk P ty) {f : FuncId} {fn : Func} {c : Code} (hf : P.funcs[f]? = some fn) (hb : fn.body = some c) (hn : (fn.name == "runtime.NumGoroutine") = false) {rs : Array ResultVar} (hr : fn.results = rs) (hN : fn.ntmps = N) {args : List Value} {H : Heap} {R : Value → Heap → Prop} (hl : args.length ≤ N)
    (h : ∀ Q : Exit → St → Prop, (∀ s v v' h', resC ty rs.toList s = some v → Ret H v s.h v' h' → R v' h' → Q .normal s ∧ Q .ret s) → CW P N c ⟨argTm 0 args, H⟩ Q) : Fn P f args H R := by
  subst hN; subst hr
  exact fn_intro T hf hb hn hl (h _ fun s v v' h' h1 h2 h3 => ⟨⟨.inl rfl, v, v', h', h1, h2, h3⟩, .inr rfl, v, v', h', h1, h2, h3⟩)
def subT : List (Nat × Ent) → List (Nat × Ent) → Prop
  | [], _ => True
  | (t, e) :: r, tm => lk tm t = some e ∧ subT r tm
theorem subT_lk {tm : List (Nat × Ent)} : ∀ {tm0 : List (Nat × Ent)}, subT tm0 tm → ∀ t e, lk tm0 t = some e → lk tm t = some e
  | [], _, t, e, h => by simp [lk] at h
  | (a, v) :: r, hs, t, e, h => by
    simp only [lk] at h
    split at h
    · rename_i ha; subst ha; simp at h; subst h; exact hs.1
    · exact subT_lk hs.2 t e h
theorem Weak.slots {tm0 tm : List (Nat × Ent)} {h : Heap} (hs : subT tm0 tm) : Weak ⟨tm0, h⟩ ⟨tm, h⟩ :=
  ⟨Nat.le_refl _, fun t e ht => ⟨subT_lk hs t e ht, .inl rfl⟩, fun _ _ hb => ⟨hb, .inl rfl⟩⟩

theorem wrap_i64 {n : Int} (h1 : -9223372036854775808 ≤ n) (h2 : n < 9223372036854775808) : IntKind.i64.wrap n = n := by
  simp [IntKind.wrap, IntKind.bits, IntKind.signed]; omega
theorem wrap_i32 {n : Int} (h1 : -2147483648 ≤ n) (h2 : n < 2147483648) : IntKind.i32.wrap n = n := by
  simp [IntKind.wrap, IntKind.bits, IntKind.signed]; omega
theorem wrap_i16 {n : Int} (h1 : -32768 ≤ n) (h2 : n < 32768) : IntKind.i16.wrap n = n := by
  simp [IntKind.wrap, IntKind.bits, IntKind.signed]; omega
theorem wrap_u64 {n : Int} (h1 : 0 ≤ n) (h2 : n < 18446744073709551616) : IntKind.u64.wrap n = n := by
  simp [IntKind.wrap, IntKind.bits, IntKind.signed]; omega
theorem wrap_u32 {n : Int} (h1 : 0 ≤ n) (h2 : n < 4294967296) : IntKind.u32.wrap n = n := by
  simp [IntKind.wrap, IntKind.bits, IntKind.signed]; omega
theorem wrap_u16 {n : Int} (h1 : 0 ≤ n) (h2 : n < 65536) : IntKind.u16.wrap n = n := by
  simp [IntKind.wrap, IntKind.bits, IntKind.signed]; omega
theorem wrap_u8 {n : Int} (h1 : 0 ≤ n) (h2 : n < 256) : IntKind.u8.wrap n = n := by
  simp [IntKind.wrap, IntKind.bits, IntKind.signed]; omega
/-- Bytes, as cells. -/
def u8s (l : List UInt8) : List Value := l.map fun b => .int .u8 b.toNat
theorem u8s_length (l : List UInt8) : (u8s l).length = l.length := by simp [u8s]
theorem u8s_get (l : List UInt8) (k : Nat) : (u8s l)[k]? = (l[k]?).map fun b => .int .u8 b.toNat := by simp [u8s]
theorem u8s_take (l : List UInt8) (k : Nat) : (u8s l).take k = u8s (l.take k) := by simp [u8s]
theorem u8s_drop (l : List UInt8) (k : Nat) : (u8s l).drop k = u8s (l.drop k) := by simp [u8s]
theorem u8s_append (l m : List UInt8) : u8s l ++ u8s m = u8s (l ++ m) := by simp [u8s]
theorem u8s_set (l : List UInt8) (k : Nat) (b : UInt8) : (u8s l).set k (.int .u8 b.toNat) = u8s (l.set k b) := by simp [u8s, List.map_set]
theorem u8s_closed (l : List UInt8) : ∀ x ∈ u8s l, closed1 x = true := by
  intro x hx
  simp only [u8s, List.mem_map] at hx
  obtain ⟨b, _, rfl⟩ := hx
  rfl
theorem u8s_one1 (l : List UInt8) : (u8s l).all one1 = true := by
  rw [List.all_eq_true]
  intro x hx
  simp only [u8s, List.mem_map] at hx
  obtain ⟨b, _, rfl⟩ := hx
  rfl
theorem strOf_u8s : ∀ l : List UInt8, strOf (u8s l) = some l
  | [] => rfl
  | b :: l => by
    have h := strOf_u8s l
    have e : UInt8.ofNat b.toNat = b := by simp
    simp only [u8s, List.map_cons, strOf, byteOf, Int.toNat_natCast, e, Option.bind_some] at h ⊢
    rw [h]; rfl
theorem zeros_u8 : ∀ n : Nat, zerosN [.int .u8 0] n = u8s (List.replicate n 0)
  | 0 => rfl
  | n + 1 => by rw [zerosN, zeros_u8 n]; rfl
end Go.Sx
