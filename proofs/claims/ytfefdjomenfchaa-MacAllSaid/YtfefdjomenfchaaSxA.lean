/-
  Sx, part A: canonical values and heaps, and what an operation does to them. Own words; no condition.
-/
import Derived.Calls
import Derived.KernelRfl
import Derived.Orders
import Derived.Laws.Sem
import Derived.Laws.Cells
import Derived.Laws.World
import Derived.Laws.Entries
namespace Go.Sx
noncomputable section

/-- What a canonical block holds: cells from its place on (own: nobody else's, and not frozen; unit: of how many cells each element of what grows is), or a map. -/
inductive Blk where
  | cells (cs : List Value) (own : Bool) (unit : Nat)
  | map (es : List MapEntry) (clock : Nat)
  | void (unit : Nat)
abbrev Heap := List (Option Blk)
/-- What has grown: a block of one's own, or none where nothing is in it. -/
def grown (cs : List Value) (unit : Nat) : Blk :=
  match cs with
  | [] => .void unit
  | c :: r => .cells (c :: r) true unit
/-- The capacity of a slice of which nothing is known but that it has room. -/
def OPEN : Nat := 1180591620717411303424
/-- What is known of a type. -/
structure TD where
  desc : TypeDesc
  size : Nat
  bytes : Nat
  zero : List Value
  eqf : Bool
inductive Ent where
  | v (x : Value)
  | g (β : Bool) (x : Value)
structure St where
  tm : List (Nat × Ent)
  h : Heap
def lk : List (Nat × Ent) → Nat → Option Ent
  | [], _ => none
  | (a, v) :: r, t => if a = t then some v else lk r t
def closed1 : Value → Bool
  | .bool _ | .int _ _ | .float _ _ | .complex _ _ _ | .string _ | .pointer none | .slice none _ _ | .map none | .chan none | .nilFunc | .nilIface => true
  | _ => false
/-- What an operand is, where γ is so. -/
def ev (γ : Bool) (s : List (Nat × Ent)) : Operand → Option Value
  | .tmp t => match lk s t with
    | some (.v x) => some x
    | some (.g β x) => if γ = true → β = true then some x else none
    | none => none
  | .const v => if closed1 v = true then some v else none
  | .func f => some (.func (.func f) #[] #[])
  | .global _ => none
def hget (h : Heap) (i : Nat) : Option Blk := (h[i]?).join
def cellsAt (h : Heap) (i : Nat) : Option (List Value) :=
  match hget h i with
  | some (.cells cs _ _) => some cs
  | some (.void _) => some []
  | _ => none
/-- n cells from off on. -/
def slc (cs : List Value) (off n : Nat) : Option (List Value) := if off + n ≤ cs.length then some ((cs.drop off).take n) else none
def setL : List Value → Nat → List Value → List Value
  | cs, _, [] => cs
  | cs, k, x :: xs => setL (cs.set k x) (k + 1) xs
def isAggD : TypeDesc → Bool
  | .struct _ | .array _ _ => true
  | _ => false
def one1 : Value → Bool
  | .agg _ | .tuple _ => false
  | _ => true
def loadC (d : TD) (h : Heap) : Value → Option Value
  | .pointer (some ⟨i, k, none⟩) =>
    match cellsAt h i with
    | some cs => if isAggD d.desc = true then (slc cs k d.size).map fun l => .agg l.toArray else cs[k]?
    | none => none
  | _ => none
def storeC (d : TD) (h : Heap) (p x : Value) : Option Heap :=
  match p with
  | .pointer (some ⟨i, k, none⟩) =>
    match hget h i with
    | some (.cells cs own unit) =>
      match own with
      | true => if k + d.size ≤ cs.length ∧ x.cells.toList.length = d.size ∧ x.cells.toList.all one1 = true then some (h.set i (some (.cells (setL cs k x.cells.toList) true unit))) else none
      | false => none
    | _ => none
  | _ => none
def cmpC (op : BinOp) (a b : Int) : Option Value :=
  match op with
  | .lss => some (.bool (decide (a < b)))
  | .gtr => some (.bool (decide (b < a)))
  | .leq => some (.bool (decide (a ≤ b)))
  | .geq => some (.bool (decide (b ≤ a)))
  | .eql => some (.bool (a == b))
  | .neq => some (.bool (!(a == b)))
  | _ => none
def intC (op : BinOp) (k : IntKind) (a b : Int) : Option Value :=
  match op with
  | .add => some (.int k (k.wrap (a + b)))
  | .sub => some (.int k (k.wrap (a - b)))
  | .mul => some (.int k (k.wrap (a * b)))
  | .quo => if b = 0 then none else some (.int k (k.wrap (a.tdiv b)))
  | .rem => if b = 0 then none else some (.int k (a.tmod b))
  | .and => some (.int k (Go.bits .and k a b))
  | .or => some (.int k (Go.bits .or k a b))
  | .xor => some (.int k (Go.bits .xor k a b))
  | .andNot => some (.int k (Go.bits .andNot k a b))
  | _ => none
def strC (op : BinOp) (a b : ByteArray) : Option Value :=
  match op with
  | .eql => some (.bool (a.toList == b.toList))
  | .neq => some (.bool (!(a.toList == b.toList)))
  | .lss => some (.bool (Op.bytesLess a.toList b.toList))
  | .add => if a.size + b.size ≤ 9223372036854775807 then some (.string (a ++ b)) else none
  | _ => none
/-- Cells that are equal, kind by kind, after the zero cells of their type. -/
def flatEq : List Value → List Value → List Value → Option Bool
  | [], [], [] => some true
  | .int k _ :: zs, .int k' a :: xs, .int k'' b :: ys => if k = k' ∧ k = k'' then (flatEq zs xs ys).map fun r => (a == b) && r else none
  | .bool _ :: zs, .bool a :: xs, .bool b :: ys => (flatEq zs xs ys).map fun r => (a == b) && r
  | .string _ :: zs, .string a :: xs, .string b :: ys => (flatEq zs xs ys).map fun r => (a == b) && r
  | _, _, _ => none
def eqC (d : TD) (x y : Value) : Option Bool :=
  match x with
  | .bool a => match y with
    | .bool b => match d.desc with
      | .bool => some (a == b)
      | _ => none
    | _ => none
  | .agg xs => match y with
    | .agg ys => match d.eqf with
      | true => flatEq d.zero xs.toList ys.toList
      | false => none
    | _ => none
  | .pointer none => match y with
    | .pointer b => match d.desc with
      | .pointer _ => some b.isNone
      | _ => none
    | _ => none
  | .pointer (some _) => match y with
    | .pointer none => match d.desc with
      | .pointer _ => some false
      | _ => none
    | _ => none
  | .slice a n c => match y with
    | .slice none _ _ => match d.desc with
      | .slice _ => if c = OPEN ∧ n = 0 then none else some a.isNone
      | _ => none
    | _ => none
  | _ => none
def binC (op : BinOp) (d : TD) (x y : Value) : Option Value :=
  match x with
  | .int k a => match y with
    | .int k' b => match op with
      | .shl => if 0 ≤ b then some (.int k (k.wrap (a * 2 ^ min b.toNat k.bits))) else none
      | .shr => if 0 ≤ b then some (.int k (a.fdiv (2 ^ min b.toNat k.bits))) else none
      | .lss => if k = k' then cmpC .lss a b else none
      | .gtr => if k = k' then cmpC .gtr a b else none
      | .leq => if k = k' then cmpC .leq a b else none
      | .geq => if k = k' then cmpC .geq a b else none
      | .eql => if k = k' then cmpC .eql a b else none
      | .neq => if k = k' then cmpC .neq a b else none
      | op => if k = k' then intC op k a b else none
    | _ => none
  | .string a => match y with
    | .string b => strC op a b
    | _ => none
  | x => match op with
    | .eql => (eqC d x y).map fun b => .bool b
    | .neq => (eqC d x y).map fun b => .bool (!b)
    | _ => none
def unC (op : UnOp) (x : Value) : Option Value :=
  match op with
  | .not => match x with
    | .bool b => some (.bool (!b))
    | _ => none
  | .neg => match x with
    | .int k n => some (.int k (k.wrap (0 - n)))
    | _ => none
  | .xor => match x with
    | .int k n => some (.int k (Go.bits .xor k (if k.signed then -1 else k.max) n))
    | _ => none
  | _ => none
def byteOf (v : Value) : Option UInt8 :=
  match v with
  | .int k n => match k with
    | .u8 => some (UInt8.ofNat n.toNat)
    | _ => none
  | _ => none
def strOf (l : List Value) : Option (List UInt8) :=
  match l with
  | [] => some []
  | v :: r => (byteOf v).bind fun b => (strOf r).map fun t => b :: t
/-- A block of one's own that is read alone from now on. -/
def lendC (h : Heap) (i : Nat) : Option Heap :=
  match hget h i with
  | some (.cells cs true u) => some (h.set i (some (.cells cs false u)))
  | _ => none
/-- The cells of a slice of a block. -/
def rowOf (size : Nat) (h : Heap) (v : Value) : Option (List Value) :=
  match v with
  | .slice none _ _ => some []
  | .slice (some ⟨i, k, none⟩) n _ => (cellsAt h i).bind fun cs => slc cs k (n * size)
  | .string s => some (s.data.toList.map fun b => .int .u8 b.toNat)
  | _ => none
def convC (ty : TypeId → Option TD) (h : Heap) (s t : TypeId) (x : Value) : Option Value :=
  (ty t).bind fun d => (ty s).bind fun ds =>
    match x with
    | .int _ n => match d.desc with
      | .int k => some (.int k (k.wrap n))
      | _ => none
    | .slice a n c => match d.desc with
      | .string => match ds.desc with
        | .slice e => (ty e).bind fun de => match de.desc with
          | .int .u8 => (rowOf 1 h (.slice a n c)).bind fun l => (strOf l).map fun b => .string ⟨b.toArray⟩
          | _ => none
        | _ => none
      | _ => none
    | .string b => match d.desc with
      | .string => match ds.desc with
        | .slice _ => none
        | .int _ => none
        | .unsafePointer => none
        | _ => some (.string b)
      | _ => none
    | _ => none
def indexAddrC (ty : TypeId → Option TD) (t : TypeId) (x i : Value) : Option Value :=
  (ty t).bind fun d => match d.desc with
    | .slice e => (ty e).bind fun d' => match x with
      | .slice (some ⟨b, k, none⟩) len _ => match i with
        | .int _ j => if 0 ≤ j ∧ j < (len : Int) then some (.pointer (some ⟨b, k + j.toNat * d'.size, none⟩)) else none
        | _ => none
      | _ => none
    | .array n e => (ty e).bind fun d' => match x with
      | .pointer (some ⟨b, k, none⟩) => match i with
        | .int _ j => if 0 ≤ j ∧ j < (n : Int) then some (.pointer (some ⟨b, k + j.toNat * d'.size, none⟩)) else none
        | _ => none
      | _ => none
    | _ => none
/-- A part of cells, as a value of a type. -/
def partC (d : TD) (cs : List Value) (off : Nat) : Option Value :=
  if isAggD d.desc = true then (slc cs off d.size).map fun l => .agg l.toArray else cs[off]?
def indexC (ty : TypeId → Option TD) (t : TypeId) (x i : Value) : Option Value :=
  (ty t).bind fun d => match d.desc with
    | .array n e => (ty e).bind fun d' => match x with
      | .agg cs => match i with
        | .int _ j => if 0 ≤ j ∧ j < (n : Int) then partC d' cs.toList (j.toNat * d'.size) else none
        | _ => none
      | _ => none
    | .string => match x with
      | .string s => match i with
        | .int _ j => if 0 ≤ j then (s.data.toList[j.toNat]?).map fun b => .int .u8 b.toNat else none
        | _ => none
      | _ => none
    | _ => none
def fieldC (ty : TypeId → Option TD) (t : TypeId) (x : Value) (f : Nat) : Option Value :=
  (ty t).bind fun d => match d.desc with
    | .struct fs => (fs[f]?).bind fun fd => (ty fd.type).bind fun d' => match x with
      | .agg cs => partC d' cs.toList fd.offset
      | _ => none
    | _ => none
def fieldAddrC (ty : TypeId → Option TD) (t : TypeId) (x : Value) (f : Nat) : Option Value :=
  (ty t).bind fun d => match d.desc with
    | .struct fs => (fs[f]?).bind fun fd => (ty fd.type).bind fun d' => if d'.size = 0 then none else match x with
      | .pointer (some ⟨b, k, none⟩) => some (.pointer (some ⟨b, k + fd.offset, none⟩))
      | _ => none
    | _ => none
def boundC (x : Option Value) (dflt y : Nat) : Option Nat :=
  match x with
  | none => if dflt ≤ y then some dflt else none
  | some (.int _ i) => if 0 ≤ i ∧ i ≤ y then some i.toNat else none
  | some _ => none
def mkSl (a : Option Addr) (len cap : Nat) : Option Value := if cap = OPEN then none else some (.slice a len cap)
def ownUnit (h : Heap) (i : Nat) : Option Nat :=
  match hget h i with
  | some (.cells _ own unit) => if own = true then some unit else none
  | some (.void unit) => some unit
  | _ => none
/-- Slicing: of a slice (whose capacity may be open), of a string, of an array behind a pointer. -/
def sliceC (ty : TypeId → Option TD) (hp : Heap) (t : TypeId) (x : Value) (lo hi mx : Option Value) : Option Value :=
  (ty t).bind fun d => match d.desc with
    | .slice e => (ty e).bind fun d' => match x with
      | .slice a len cap =>
        if cap = OPEN then
          match mx with
          | some _ => match hi with
            | some _ => (boundC mx len len).bind fun m => (boundC hi len m).bind fun h => (boundC lo 0 h).bind fun l => match a with
              | some ⟨b, k, none⟩ => if m = l then none else mkSl (some ⟨b, k + l * d'.size, none⟩) (h - l) (m - l)
              | _ => none
            | none => none
          | none => (boundC hi len len).bind fun h => (boundC lo 0 h).bind fun l => match a with
            | some ⟨b, k, none⟩ => if ownUnit hp b = some d'.size then some (.slice (some ⟨b, k + l * d'.size, none⟩) (h - l) OPEN) else none
            | _ => none
        else
          match mx with
          | some _ => match hi with
            | some _ => (boundC mx cap cap).bind fun m => (boundC hi len m).bind fun h => (boundC lo 0 h).bind fun l => match a with
              | some ⟨b, k, none⟩ => mkSl (some (if m = l then ⟨b, k, none⟩ else ⟨b, k + l * d'.size, none⟩)) (h - l) (m - l)
              | none => some (.slice none (h - l) (m - l))
              | _ => none
            | none => none
          | none => (boundC hi len cap).bind fun h => (boundC lo 0 h).bind fun l => match a with
            | some ⟨b, k, none⟩ => mkSl (some (if cap = l then ⟨b, k, none⟩ else ⟨b, k + l * d'.size, none⟩)) (h - l) (cap - l)
            | none => some (.slice none (h - l) (cap - l))
            | _ => none
      | _ => none
    | .string => match x with
      | .string s => match mx with
        | none => (boundC hi s.size s.size).bind fun h => (boundC lo 0 h).map fun l => .string (s.extract l h)
        | some _ => none
      | _ => none
    | .array n e => (ty e).bind fun d' => match x with
      | .pointer (some ⟨b, k, none⟩) =>
        match mx with
        | some _ => match hi with
          | some _ => (boundC mx n n).bind fun m => (boundC hi n m).bind fun h => (boundC lo 0 h).bind fun l => mkSl (some (if m = l then ⟨b, k, none⟩ else ⟨b, k + l * d'.size, none⟩)) (h - l) (m - l)
          | none => none
        | none => (boundC hi n n).bind fun h => (boundC lo 0 h).bind fun l => mkSl (some (if n = l then ⟨b, k, none⟩ else ⟨b, k + l * d'.size, none⟩)) (h - l) (n - l)
      | _ => none
    | _ => none
def pickC (β : Bool) (x y : Value) : Value :=
  match x with
  | .bool p => match y with
    | .bool q => .bool (cond β p q)
    | y => if β = true then .bool p else y
  | x => if β = true then x else y
/-- Laying parts into cells. -/
def fillC (place : Nat → Option (Nat × Nat)) (cs : List Value) : List (Nat × Value) → Option (List Value)
  | [] => some cs
  | (i, v) :: rest => (place i).bind fun p => if v.cells.toList.length = p.2 ∧ p.1 + p.2 ≤ cs.length then fillC place (setL cs p.1 v.cells.toList) rest else none
def fplace (ty : TypeId → Option TD) (fs : Array Field) (i : Nat) : Option (Nat × Nat) := (fs[i]?).bind fun f => (ty f.type).map fun d => (f.offset, d.size)
def fieldsKnown (ty : TypeId → Option TD) : List Field → Bool
  | [] => true
  | f :: r => (ty f.type).isSome && fieldsKnown ty r
def buildC (ty : TypeId → Option TD) (t : TypeId) (ps : List (Nat × Value)) : Option Value :=
  (ty t).bind fun d => match d.desc with
    | .struct fs => if fieldsKnown ty fs.toList = true then (fillC (fplace ty fs) d.zero ps).map fun l => .agg l.toArray else none
    | .array _ e => (ty e).bind fun d' => (fillC (fun i => some (i * d'.size, d'.size)) d.zero ps).map fun l => .agg l.toArray
    | _ => none
/-- The zero cells, n times. -/
def zerosN (z : List Value) : Nat → List Value
  | 0 => []
  | n + 1 => z ++ zerosN z n
def all2 {α : Type} : List (Option α) → Option (List α)
  | [] => some []
  | x :: r => x.bind fun a => (all2 r).map fun l => a :: l
def lenC (v : Value) : Option Value :=
  match v with
  | .slice _ n _ => some (.int .i64 n)
  | .string s => some (.int .i64 s.size)
  | _ => none
def minC (x y : Value) : Option Value :=
  match x with
  | .int k a => match y with
    | .int _ b => some (.int k (if b < a then b else a))
    | _ => none
  | _ => none
def maxC (x y : Value) : Option Value :=
  match x with
  | .int k a => match y with
    | .int _ b => some (.int k (if b > a then b else a))
    | _ => none
  | _ => none
def foldC (f : Value → Value → Option Value) : Value → List Value → Option Value
  | x, [] => some x
  | x, y :: r => (f x y).bind fun z => foldC f z r
/-- Builtins that only look. -/
def builtP (ty : TypeId → Option TD) (ats : Array TypeId) (b : Builtin) (args : List Value) : Option Value :=
  match b with
  | .len => match args with
    | x :: _ => (ats[0]?).bind fun t => (ty t).bind fun d => match d.desc with
      | .slice _ => match x with
        | .slice _ n _ => some (.int .i64 n)
        | _ => none
      | .string => match x with
        | .string s => some (.int .i64 s.size)
        | _ => none
      | .array n _ => some (.int .i64 n)
      | _ => none
    | _ => none
  | .min => match args with
    | x :: r => foldC minC x r
    | _ => none
  | .max => match args with
    | x :: r => foldC maxC x r
    | _ => none
  | _ => none
def evs (γ : Bool) (s : List (Nat × Ent)) (xs : List Operand) : Option (List Value) := all2 (xs.map (ev γ s))
def evps (γ : Bool) (s : List (Nat × Ent)) (xs : List (Nat × Operand)) : Option (List (Nat × Value)) := all2 (xs.map fun p => (ev γ s p.2).map fun v => (p.1, v))
def evo (γ : Bool) (s : List (Nat × Ent)) (x : Option Operand) : Option (Option Value) :=
  match x with
  | none => some none
  | some x => (ev γ s x).map some
/-- Operations that leave the heap as it is. -/
def semP (ty : TypeId → Option TD) (γ : Bool) (o : Op) (s : List (Nat × Ent)) (hp : Heap) : Option Value :=
  match o with
  | .move x => ev γ s x
  | .assign x => ev γ s x
  | .pick c a b => (ev γ s c).bind fun c => match c with
    | .bool β => (ev (γ && β) s a).bind fun x => (ev (γ && !β) s b).map fun y => pickC β x y
    | _ => none
  | .build t ps => (evps γ s ps.toList).bind fun l => buildC ty t l
  | .load t x => (ty t).bind fun d => (ev γ s x).bind fun v => loadC d hp v
  | .nilCheck x => (ev γ s x).bind fun v => match v with
    | .pointer (some a) => some (.pointer (some a))
    | .iface t x => some (.iface t x)
    | .func (.func f) x y => some (.func (.func f) x y)
    | _ => none
  | .binOp op t x y _ => (ty t).bind fun d => (ev γ s x).bind fun a => (ev γ s y).bind fun b => binC op d a b
  | .unOp op _ x => (ev γ s x).bind fun a => unC op a
  | .convert src t x => (ev γ s x).bind fun a => convC ty hp src t a
  | .sliceToArrayPointer t x => (ty t).bind fun d => (ev γ s x).bind fun a => match d.desc with
    | .array n _ => match a with
      | .slice b len _ => if n ≤ len ∧ 0 < n then some (.pointer b) else none
      | _ => none
    | _ => none
  | .makeInterface t x => (ty t).bind fun d => (ev γ s x).bind fun a => match d.desc with
    | .interface _ => none
    | _ => some (.iface t a)
  | .makeFunc fn first captured => (evs γ s first.toList).bind fun l => (evs γ s captured.toList).map fun m => .func fn l.toArray m.toArray
  | .slice t x lo hi mx => (ev γ s x).bind fun a => (evo γ s lo).bind fun l => (evo γ s hi).bind fun h => (evo γ s mx).bind fun m => sliceC ty hp t a l h m
  | .fieldAddr t x f => (ev γ s x).bind fun a => fieldAddrC ty t a f
  | .field t x f => (ev γ s x).bind fun a => fieldC ty t a f
  | .indexAddr t x i => (ev γ s x).bind fun a => (ev γ s i).bind fun b => indexAddrC ty t a b
  | .index t x i => (ev γ s x).bind fun a => (ev γ s i).bind fun b => indexC ty t a b
  | .extract x i => (ev γ s x).bind fun a => match a with
    | .tuple vs => vs.toList[i]?
    | _ => none
  | .call c => match c.callee with
    | .builtin b => (evs γ s c.args.toList).bind fun l => builtP ty c.argTypes b l
    | _ => none
  | _ => none
def isP : Op → Bool
  | .move _ | .assign _ | .pick .. | .build .. | .load .. | .nilCheck _ | .binOp .. | .unOp .. | .sliceToArrayPointer .. | .makeInterface .. | .makeFunc .. | .slice .. | .fieldAddr .. | .field .. | .indexAddr .. | .index .. | .extract .. => true
  | .convert .. => true
  | .call c => match c.callee with
    | .builtin .len => true
    | .builtin .min => true
    | .builtin .max => true
    | _ => false
  | _ => false
/-- Appending the cells xs (n elements) behind a slice. -/
def appendC (d : TD) (h : Heap) (s : Value) (n : Nat) (xs : List Value) : Option (Value × Heap) :=
  match s with
  | .slice a len cap =>
    if (len + n) * d.bytes ≤ 35184372088832 ∧ len + n ≤ 35184372088832 then
      match a with
      | none => if len = 0 ∧ cap = 0 ∧ 0 < d.size then some (.slice (some ⟨h.length, 0, none⟩) n OPEN, h ++ [some (grown xs d.size)]) else none
      | some ⟨i, k, none⟩ =>
        if len = 0 ∧ cap = 0 then (if 0 < d.size then some (.slice (some ⟨h.length, 0, none⟩) n OPEN, h ++ [some (grown xs d.size)]) else none) else
        match hget h i with
        | some (.cells cs own unit) =>
          if cap = OPEN then
            (match own with
            | true => if k + len * d.size = cs.length ∧ unit = d.size ∧ xs.all one1 = true then some (.slice (some ⟨h.length, 0, none⟩) (len + n) OPEN, h.set i none ++ [some (.cells (cs.drop k ++ xs) true d.size)]) else none
            | false => none)
          else if len + n ≤ cap then
            (if n = 0 then some (.slice (some ⟨i, k, none⟩) len cap, h) else none)
          else (slc cs k (len * d.size)).map fun old => (.slice (some ⟨h.length, 0, none⟩) (len + n) OPEN, h ++ [some (.cells (old ++ xs) true d.size)])
        | some (.void unit) => if cap = OPEN ∧ len = 0 ∧ k = 0 ∧ unit = d.size ∧ 0 < d.size ∧ xs.all one1 = true then some (.slice (some ⟨h.length, 0, none⟩) n OPEN, h.set i none ++ [some (grown xs d.size)]) else none
        | _ => none
      | _ => none
    else none
  | _ => none
def copyC (d : TD) (h : Heap) (dst src : Value) : Option (Value × Heap) :=
  (lenC src).bind fun ns => match ns with
    | .int _ n => match dst with
      | .slice a len _ =>
        (rowOf d.size h src).bind fun row => match a with
          | none => if len = 0 then some (.int .i64 0, h) else none
          | some ⟨i, k, none⟩ => match hget h i with
            | some (.cells cs own unit) => match own with
              | true => if k + (min n.toNat len) * d.size ≤ cs.length ∧ (row.take ((min n.toNat len) * d.size)).all one1 = true ∧ row.length = n.toNat * d.size then some (.int .i64 (min n.toNat len : Nat), h.set i (some (.cells (setL cs k (row.take ((min n.toNat len) * d.size))) true unit))) else none
              | false => none
            | _ => none
          | _ => none
      | _ => none
    | _ => none
/-- Operations that make or turn blocks (none calls a function of Go). -/
def semA (ty : TypeId → Option TD) (o : Op) (s : List (Nat × Ent)) (h : Heap) : Option (Value × Heap) :=
  match o with
  | .alloc t => (ty t).map fun d => (.pointer (some ⟨h.length, 0, none⟩), h ++ [some (.cells d.zero true 0)])
  | .box _ x => (ev true s x).map fun v => (.pointer (some ⟨h.length, 0, none⟩), h ++ [some (.cells v.cells.toList true 0)])
  | .buildSlice t n ps => (ty t).bind fun d => match d.desc with
    | .slice e => (ty e).bind fun d' => (evps true s ps.toList).bind fun l => if n * d'.size ≤ 16777216 ∧ n ≤ 16777216 then (fillC (fun i => some (i * d'.size, d'.size)) (zerosN d'.zero n) l).map fun cs => (.slice (some ⟨h.length, 0, none⟩) n n, h ++ [some (.cells cs true 0)]) else none
    | _ => none
  | .makeSlice t l c => (ty t).bind fun d => match d.desc with
    | .slice e => (ty e).bind fun d' => (ev true s l).bind fun l => (ev true s c).bind fun c => match l with
      | .int _ n => match c with
        | .int _ m => if 0 ≤ n ∧ n = m ∧ n * d'.bytes ≤ 281474976710656 ∧ n ≤ 9223372036854775807 then some (.slice (some ⟨h.length, 0, none⟩) n.toNat n.toNat, h ++ [some (.cells (zerosN d'.zero n.toNat) true 0)]) else none
        | _ => none
      | _ => none
    | _ => none
  | .convert src t x => (ty src).bind fun _ => (ty t).bind fun d => match d.desc with
    | .slice e => (ty e).bind fun d' => match d'.desc with
      | .int .u8 => (ev true s x).bind fun v => match v with
        | .string b => some (.slice (some ⟨h.length, 0, none⟩) b.size OPEN, h ++ [some (.cells (b.data.toList.map fun c => .int .u8 c.toNat) true 1)])
        | .slice (some ⟨i, k, none⟩) n c => if src = t ∧ n ≠ 0 then (lendC h i).map fun h' => (.slice (some ⟨i, k, none⟩) n c, h') else none
        | _ => none
      | _ => none
    | _ => none
  | .store t a x => (ty t).bind fun d => (ev true s a).bind fun p => (ev true s x).bind fun v => (storeC d h p v).map fun h' => (undef, h')
  | .call c => match c.callee with
    | .builtin .append => (c.argTypes[0]?).bind fun t => (ty t).bind fun d => match d.desc with
      | .slice e => (ty e).bind fun d' => (evs true s c.args.toList).bind fun l => match l with
        | x :: y :: _ => match c.argTypes[1]? with
          | some t2 => (ty t2).bind fun d2 => match d2.desc with
            | .int _ => none
            | _ => (lenC y).bind fun ny => match ny with
              | .int _ n => (rowOf d'.size h y).bind fun row => if row.length = n.toNat * d'.size then appendC d' h x n.toNat row else none
              | _ => none
          | none => none
        | _ => none
      | _ => none
    | .builtin .copy => (c.argTypes[0]?).bind fun t => (ty t).bind fun d => match d.desc with
      | .slice e => (ty e).bind fun d' => (evs true s c.args.toList).bind fun l => match l with
        | x :: y :: _ => copyC d' h x y
        | _ => none
      | _ => none
    | _ => none
  | _ => none
/-- The call that an operation makes: the function, and its arguments. -/
def callee (s : List (Nat × Ent)) (o : Op) : Option (FuncId × List Value) :=
  match o with
  | .call c => match c.callee with
    | .value f => (ev true s f).bind fun fv => (evs true s c.args.toList).bind fun l => match fv with
      | .func fn first captured => match fn with
        | .func f => some (f, first.toList ++ l ++ captured.toList)
        | _ => none
      | _ => none
    | _ => none
  | _ => none
def put (d : Option Tmp) (v : Ent) (tm : List (Nat × Ent)) : List (Nat × Ent) :=
  match d with
  | some t => (t, v) :: tm
  | none => tm
/-- Whether a guard is so: of the operation j's slot. -/
def guardC (all : List Oper) (s : List (Nat × Ent)) (g : Nat × Bool) : Option Bool :=
  ((all[g.1]?).bind fun o => o.dst).bind fun t => (lk s t).bind fun e => match e with
    | .v x => match x with
      | .bool b => some (b == g.2)
      | _ => none
    | .g β x => match x with
      | .bool b => some (β && (b == g.2))
      | _ => none
end
end Go.Sx
