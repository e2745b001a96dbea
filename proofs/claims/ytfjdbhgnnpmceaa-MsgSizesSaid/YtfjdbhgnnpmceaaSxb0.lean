/-
  Walks by Sx; no condition beyond those that stand in each statement.
-/
import Derived.Calls
import Derived.KernelRfl
import Derived.Orders
import Derived.Laws.Sem
import Derived.Laws.Cells
import Derived.Laws.World
import Derived.Laws.Entries
section
/-
  Sx, part A: canonical values and heaps, and what an operation does to them. Own words; no condition.
-/
namespace Go.Sx
noncomputable section

/-- What a canonical block holds: cells from its place on (own: nobody else's, and not frozen; unit: of how many cells each element of what grows is), or a map. -/
inductive Blk where
  | cells (cs : List Value) (own : Bool) (unit : Nat)
  | map (es : List MapEntry) (clock : Nat)
  | void (unit : Nat)
abbrev Heap := List (Option Blk)
/-- What has grown: a block of one's own, or none where nothing is in it. -/
def grown (cs : List Value) (unit : Nat) : Blk :=
  match cs with
  | [] => .void unit
  | c :: r => .cells (c :: r) true unit
/-- The capacity of a slice of which nothing is known but that it has room. -/
def OPEN : Nat := 1180591620717411303424
/-- What is known of a type. -/
structure TD where
  desc : TypeDesc
  size : Nat
  bytes : Nat
  zero : List Value
  eqf : Bool
inductive Ent where
  | v (x : Value)
  | g (β : Bool) (x : Value)
structure St where
  tm : List (Nat × Ent)
  h : Heap
def lk : List (Nat × Ent) → Nat → Option Ent
  | [], _ => none
  | (a, v) :: r, t => if a = t then some v else lk r t
def closed1 : Value → Bool
  | .bool _ | .int _ _ | .float _ _ | .complex _ _ _ | .string _ | .pointer none | .slice none _ _ | .map none | .chan none | .nilFunc | .nilIface => true
  | _ => false
/-- What an operand is, where γ is so. -/
def ev (γ : Bool) (s : List (Nat × Ent)) : Operand → Option Value
  | .tmp t => match lk s t with
    | some (.v x) => some x
    | some (.g β x) => if γ = true → β = true then some x else none
    | none => none
  | .const v => if closed1 v = true then some v else none
  | .func f => some (.func (.func f) #[] #[])
  | .global _ => none
def hget (h : Heap) (i : Nat) : Option Blk := (h[i]?).join
def cellsAt (h : Heap) (i : Nat) : Option (List Value) :=
  match hget h i with
  | some (.cells cs _ _) => some cs
  | some (.void _) => some []
  | _ => none
/-- n cells from off on. -/
def slc (cs : List Value) (off n : Nat) : Option (List Value) := if off + n ≤ cs.length then some ((cs.drop off).take n) else none
def setL : List Value → Nat → List Value → List Value
  | cs, _, [] => cs
  | cs, k, x :: xs => setL (cs.set k x) (k + 1) xs
def isAggD : TypeDesc → Bool
  | .struct _ | .array _ _ => true
  | _ => false
def one1 : Value → Bool
  | .agg _ | .tuple _ => false
  | _ => true
def loadC (d : TD) (h : Heap) : Value → Option Value
  | .pointer (some ⟨i, k, none⟩) =>
    match cellsAt h i with
    | some cs => if isAggD d.desc = true then (slc cs k d.size).map fun l => .agg l.toArray else cs[k]?
    | none => none
  | _ => none
def storeC (d : TD) (h : Heap) (p x : Value) : Option Heap :=
  match p with
  | .pointer (some ⟨i, k, none⟩) =>
    match hget h i with
    | some (.cells cs own unit) =>
      match own with
      | true => if k + d.size ≤ cs.length ∧ x.cells.toList.length = d.size ∧ x.cells.toList.all one1 = true then some (h.set i (some (.cells (setL cs k x.cells.toList) true unit))) else none
      | false => none
    | _ => none
  | _ => none
def cmpC (op : BinOp) (a b : Int) : Option Value :=
  match op with
  | .lss => some (.bool (decide (a < b)))
  | .gtr => some (.bool (decide (b < a)))
  | .leq => some (.bool (decide (a ≤ b)))
  | .geq => some (.bool (decide (b ≤ a)))
  | .eql => some (.bool (a == b))
  | .neq => some (.bool (!(a == b)))
  | _ => none
def intC (op : BinOp) (k : IntKind) (a b : Int) : Option Value :=
  match op with
  | .add => some (.int k (k.wrap (a + b)))
  | .sub => some (.int k (k.wrap (a - b)))
  | .mul => some (.int k (k.wrap (a * b)))
  | .quo => if b = 0 then none else some (.int k (k.wrap (a.tdiv b)))
  | .rem => if b = 0 then none else some (.int k (a.tmod b))
  | .and => some (.int k (Go.bits .and k a b))
  | .or => some (.int k (Go.bits .or k a b))
  | .xor => some (.int k (Go.bits .xor k a b))
  | .andNot => some (.int k (Go.bits .andNot k a b))
  | _ => none
def strC (op : BinOp) (a b : ByteArray) : Option Value :=
  match op with
  | .eql => some (.bool (a.toList == b.toList))
  | .neq => some (.bool (!(a.toList == b.toList)))
  | .lss => some (.bool (Op.bytesLess a.toList b.toList))
  | .add => if a.size + b.size ≤ 9223372036854775807 then some (.string (a ++ b)) else none
  | _ => none
/-- Cells that are equal, kind by kind, after the zero cells of their type. -/
def flatEq : List Value → List Value → List Value → Option Bool
  | [], [], [] => some true
  | .int k _ :: zs, .int k' a :: xs, .int k'' b :: ys => if k = k' ∧ k = k'' then (flatEq zs xs ys).map fun r => (a == b) && r else none
  | .bool _ :: zs, .bool a :: xs, .bool b :: ys => (flatEq zs xs ys).map fun r => (a == b) && r
  | .string _ :: zs, .string a :: xs, .string b :: ys => (flatEq zs xs ys).map fun r => (a == b) && r
  | _, _, _ => none
def eqC (d : TD) (x y : Value) : Option Bool :=
  match x with
  | .bool a => match y with
    | .bool b => match d.desc with
      | .bool => some (a == b)
      | _ => none
    | _ => none
  | .agg xs => match y with
    | .agg ys => match d.eqf with
      | true => flatEq d.zero xs.toList ys.toList
      | false => none
    | _ => none
  | .pointer none => match y with
    | .pointer b => match d.desc with
      | .pointer _ => some b.isNone
      | _ => none
    | _ => none
  | .pointer (some _) => match y with
    | .pointer none => match d.desc with
      | .pointer _ => some false
      | _ => none
    | _ => none
  | .slice a n c => match y with
    | .slice none _ _ => match d.desc with
      | .slice _ => if c = OPEN ∧ n = 0 then none else some a.isNone
      | _ => none
    | _ => none
  | _ => none
def binC (op : BinOp) (d : TD) (x y : Value) : Option Value :=
  match x with
  | .int k a => match y with
    | .int k' b => match op with
      | .shl => if 0 ≤ b then some (.int k (k.wrap (a * 2 ^ min b.toNat k.bits))) else none
      | .shr => if 0 ≤ b then some (.int k (a.fdiv (2 ^ min b.toNat k.bits))) else none
      | .lss => if k = k' then cmpC .lss a b else none
      | .gtr => if k = k' then cmpC .gtr a b else none
      | .leq => if k = k' then cmpC .leq a b else none
      | .geq => if k = k' then cmpC .geq a b else none
      | .eql => if k = k' then cmpC .eql a b else none
      | .neq => if k = k' then cmpC .neq a b else none
      | op => if k = k' then intC op k a b else none
    | _ => none
  | .string a => match y with
    | .string b => strC op a b
    | _ => none
  | x => match op with
    | .eql => (eqC d x y).map fun b => .bool b
    | .neq => (eqC d x y).map fun b => .bool (!b)
    | _ => none
def unC (op : UnOp) (x : Value) : Option Value :=
  match op with
  | .not => match x with
    | .bool b => some (.bool (!b))
    | _ => none
  | .neg => match x with
    | .int k n => some (.int k (k.wrap (0 - n)))
    | _ => none
  | .xor => match x with
    | .int k n => some (.int k (Go.bits .xor k (if k.signed then -1 else k.max) n))
    | _ => none
  | _ => none
def byteOf (v : Value) : Option UInt8 :=
  match v with
  | .int k n => match k with
    | .u8 => some (UInt8.ofNat n.toNat)
    | _ => none
  | _ => none
def strOf (l : List Value) : Option (List UInt8) :=
  match l with
  | [] => some []
  | v :: r => (byteOf v).bind fun b => (strOf r).map fun t => b :: t
/-- A block of one's own that is read alone from now on. -/
def lendC (h : Heap) (i : Nat) : Option Heap :=
  match hget h i with
  | some (.cells cs true u) => some (h.set i (some (.cells cs false u)))
  | _ => none
/-- The cells of a slice of a block. -/
def rowOf (size : Nat) (h : Heap) (v : Value) : Option (List Value) :=
  match v with
  | .slice none _ _ => some []
  | .slice (some ⟨i, k, none⟩) n _ => (cellsAt h i).bind fun cs => slc cs k (n * size)
  | .string s => some (s.data.toList.map fun b => .int .u8 b.toNat)
  | _ => none
def convC (ty : TypeId → Option TD) (h : Heap) (s t : TypeId) (x : Value) : Option Value :=
  (ty t).bind fun d => (ty s).bind fun ds =>
    match x with
    | .int _ n => match d.desc with
      | .int k => some (.int k (k.wrap n))
      | _ => none
    | .slice a n c => match d.desc with
      | .string => match ds.desc with
        | .slice e => (ty e).bind fun de => match de.desc with
          | .int .u8 => (rowOf 1 h (.slice a n c)).bind fun l => (strOf l).map fun b => .string ⟨b.toArray⟩
          | _ => none
        | _ => none
      | _ => none
    | .string b => match d.desc with
      | .string => match ds.desc with
        | .slice _ => none
        | .int _ => none
        | .unsafePointer => none
        | _ => some (.string b)
      | _ => none
    | _ => none
def indexAddrC (ty : TypeId → Option TD) (t : TypeId) (x i : Value) : Option Value :=
  (ty t).bind fun d => match d.desc with
    | .slice e => (ty e).bind fun d' => match x with
      | .slice (some ⟨b, k, none⟩) len _ => match i with
        | .int _ j => if 0 ≤ j ∧ j < (len : Int) then some (.pointer (some ⟨b, k + j.toNat * d'.size, none⟩)) else none
        | _ => none
      | _ => none
    | .array n e => (ty e).bind fun d' => match x with
      | .pointer (some ⟨b, k, none⟩) => match i with
        | .int _ j => if 0 ≤ j ∧ j < (n : Int) then some (.pointer (some ⟨b, k + j.toNat * d'.size, none⟩)) else none
        | _ => none
      | _ => none
    | _ => none
/-- A part of cells, as a value of a type. -/
def partC (d : TD) (cs : List Value) (off : Nat) : Option Value :=
  if isAggD d.desc = true then (slc cs off d.size).map fun l => .agg l.toArray else cs[off]?
def indexC (ty : TypeId → Option TD) (t : TypeId) (x i : Value) : Option Value :=
  (ty t).bind fun d => match d.desc with
    | .array n e => (ty e).bind fun d' => match x with
      | .agg cs => match i with
        | .int _ j => if 0 ≤ j ∧ j < (n : Int) then partC d' cs.toList (j.toNat * d'.size) else none
        | _ => none
      | _ => none
    | .string => match x with
      | .string s => match i with
        | .int _ j => if 0 ≤ j then (s.data.toList[j.toNat]?).map fun b => .int .u8 b.toNat else none
        | _ => none
      | _ => none
    | _ => none
def fieldC (ty : TypeId → Option TD) (t : TypeId) (x : Value) (f : Nat) : Option Value :=
  (ty t).bind fun d => match d.desc with
    | .struct fs => (fs[f]?).bind fun fd => (ty fd.type).bind fun d' => match x with
      | .agg cs => partC d' cs.toList fd.offset
      | _ => none
    | _ => none
def fieldAddrC (ty : TypeId → Option TD) (t : TypeId) (x : Value) (f : Nat) : Option Value :=
  (ty t).bind fun d => match d.desc with
    | .struct fs => (fs[f]?).bind fun fd => (ty fd.type).bind fun d' => if d'.size = 0 then none else match x with
      | .pointer (some ⟨b, k, none⟩) => some (.pointer (some ⟨b, k + fd.offset, none⟩))
      | _ => none
    | _ => none
def boundC (x : Option Value) (dflt y : Nat) : Option Nat :=
  match x with
  | none => if dflt ≤ y then some dflt else none
  | some (.int _ i) => if 0 ≤ i ∧ i ≤ y then some i.toNat else none
  | some _ => none
def mkSl (a : Option Addr) (len cap : Nat) : Option Value := if cap = OPEN then none else some (.slice a len cap)
def ownUnit (h : Heap) (i : Nat) : Option Nat :=
  match hget h i with
  | some (.cells _ own unit) => if own = true then some unit else none
  | some (.void unit) => some unit
  | _ => none
/-- Slicing: of a slice (whose capacity may be open), of a string, of an array behind a pointer. -/
def sliceC (ty : TypeId → Option TD) (hp : Heap) (t : TypeId) (x : Value) (lo hi mx : Option Value) : Option Value :=
  (ty t).bind fun d => match d.desc with
    | .slice e => (ty e).bind fun d' => match x with
      | .slice a len cap =>
        if cap = OPEN then
          match mx with
          | some _ => match hi with
            | some _ => (boundC mx len len).bind fun m => (boundC hi len m).bind fun h => (boundC lo 0 h).bind fun l => match a with
              | some ⟨b, k, none⟩ => if m = l then none else mkSl (some ⟨b, k + l * d'.size, none⟩) (h - l) (m - l)
              | _ => none
            | none => none
          | none => (boundC hi len len).bind fun h => (boundC lo 0 h).bind fun l => match a with
            | some ⟨b, k, none⟩ => if ownUnit hp b = some d'.size then some (.slice (some ⟨b, k + l * d'.size, none⟩) (h - l) OPEN) else none
            | _ => none
        else
          match mx with
          | some _ => match hi with
            | some _ => (boundC mx cap cap).bind fun m => (boundC hi len m).bind fun h => (boundC lo 0 h).bind fun l => match a with
              | some ⟨b, k, none⟩ => mkSl (some (if m = l then ⟨b, k, none⟩ else ⟨b, k + l * d'.size, none⟩)) (h - l) (m - l)
              | none => some (.slice none (h - l) (m - l))
              | _ => none
            | none => none
          | none => (boundC hi len cap).bind fun h => (boundC lo 0 h).bind fun l => match a with
            | some ⟨b, k, none⟩ => mkSl (some (if cap = l then ⟨b, k, none⟩ else ⟨b, k + l * d'.size, none⟩)) (h - l) (cap - l)
            | none => some (.slice none (h - l) (cap - l))
            | _ => none
      | _ => none
    | .string => match x with
      | .string s => match mx with
        | none => (boundC hi s.size s.size).bind fun h => (boundC lo 0 h).map fun l => .string (s.extract l h)
        | some _ => none
      | _ => none
    | .array n e => (ty e).bind fun d' => match x with
      | .pointer (some ⟨b, k, none⟩) =>
        match mx with
        | some _ => match hi with
          | some _ => (boundC mx n n).bind fun m => (boundC hi n m).bind fun h => (boundC lo 0 h).bind fun l => mkSl (some (if m = l then ⟨b, k, none⟩ else ⟨b, k + l * d'.size, none⟩)) (h - l) (m - l)
          | none => none
        | none => (boundC hi n n).bind fun h => (boundC lo 0 h).bind fun l => mkSl (some (if n = l then ⟨b, k, none⟩ else ⟨b, k + l * d'.size, none⟩)) (h - l) (n - l)
      | _ => none
    | _ => none
def pickC (β : Bool) (x y : Value) : Value :=
  match x with
  | .bool p => match y with
    | .bool q => .bool (cond β p q)
    | y => if β = true then .bool p else y
  | x => if β = true then x else y
/-- Laying parts into cells. -/
def fillC (place : Nat → Option (Nat × Nat)) (cs : List Value) : List (Nat × Value) → Option (List Value)
  | [] => some cs
  | (i, v) :: rest => (place i).bind fun p => if v.cells.toList.length = p.2 ∧ p.1 + p.2 ≤ cs.length then fillC place (setL cs p.1 v.cells.toList) rest else none
def fplace (ty : TypeId → Option TD) (fs : Array Field) (i : Nat) : Option (Nat × Nat) := (fs[i]?).bind fun f => (ty f.type).map fun d => (f.offset, d.size)
def fieldsKnown (ty : TypeId → Option TD) : List Field → Bool
  | [] => true
  | f :: r => (ty f.type).isSome && fieldsKnown ty r
def buildC (ty : TypeId → Option TD) (t : TypeId) (ps : List (Nat × Value)) : Option Value :=
  (ty t).bind fun d => match d.desc with
    | .struct fs => if fieldsKnown ty fs.toList = true then (fillC (fplace ty fs) d.zero ps).map fun l => .agg l.toArray else none
    | .array _ e => (ty e).bind fun d' => (fillC (fun i => some (i * d'.size, d'.size)) d.zero ps).map fun l => .agg l.toArray
    | _ => none
/-- The zero cells, n times. -/
def zerosN (z : List Value) : Nat → List Value
  | 0 => []
  | n + 1 => z ++ zerosN z n
def all2 {α : Type} : List (Option α) → Option (List α)
  | [] => some []
  | x :: r => x.bind fun a => (all2 r).map fun l => a :: l
def lenC (v : Value) : Option Value :=
  match v with
  | .slice _ n _ => some (.int .i64 n)
  | .string s => some (.int .i64 s.size)
  | _ => none
def minC (x y : Value) : Option Value :=
  match x with
  | .int k a => match y with
    | .int _ b => some (.int k (if b < a then b else a))
    | _ => none
  | _ => none
def maxC (x y : Value) : Option Value :=
  match x with
  | .int k a => match y with
    | .int _ b => some (.int k (if b > a then b else a))
    | _ => none
  | _ => none
def foldC (f : Value → Value → Option Value) : Value → List Value → Option Value
  | x, [] => some x
  | x, y :: r => (f x y).bind fun z => foldC f z r
/-- Builtins that only look. -/
def builtP (ty : TypeId → Option TD) (ats : Array TypeId) (b : Builtin) (args : List Value) : Option Value :=
  match b with
  | .len => match args with
    | x :: _ => (ats[0]?).bind fun t => (ty t).bind fun d => match d.desc with
      | .slice _ => match x with
        | .slice _ n _ => some (.int .i64 n)
        | _ => none
      | .string => match x with
        | .string s => some (.int .i64 s.size)
        | _ => none
      | .array n _ => some (.int .i64 n)
      | _ => none
    | _ => none
  | .min => match args with
    | x :: r => foldC minC x r
    | _ => none
  | .max => match args with
    | x :: r => foldC maxC x r
    | _ => none
  | _ => none
def evs (γ : Bool) (s : List (Nat × Ent)) (xs : List Operand) : Option (List Value) := all2 (xs.map (ev γ s))
def evps (γ : Bool) (s : List (Nat × Ent)) (xs : List (Nat × Operand)) : Option (List (Nat × Value)) := all2 (xs.map fun p => (ev γ s p.2).map fun v => (p.1, v))
def evo (γ : Bool) (s : List (Nat × Ent)) (x : Option Operand) : Option (Option Value) :=
  match x with
  | none => some none
  | some x => (ev γ s x).map some
/-- Operations that leave the heap as it is. -/
def semP (ty : TypeId → Option TD) (γ : Bool) (o : Op) (s : List (Nat × Ent)) (hp : Heap) : Option Value :=
  match o with
  | .move x => ev γ s x
  | .assign x => ev γ s x
  | .pick c a b => (ev γ s c).bind fun c => match c with
    | .bool β => (ev (γ && β) s a).bind fun x => (ev (γ && !β) s b).map fun y => pickC β x y
    | _ => none
  | .build t ps => (evps γ s ps.toList).bind fun l => buildC ty t l
  | .load t x => (ty t).bind fun d => (ev γ s x).bind fun v => loadC d hp v
  | .nilCheck x => (ev γ s x).bind fun v => match v with
    | .pointer (some a) => some (.pointer (some a))
    | .iface t x => some (.iface t x)
    | .func (.func f) x y => some (.func (.func f) x y)
    | _ => none
  | .binOp op t x y _ => (ty t).bind fun d => (ev γ s x).bind fun a => (ev γ s y).bind fun b => binC op d a b
  | .unOp op _ x => (ev γ s x).bind fun a => unC op a
  | .convert src t x => (ev γ s x).bind fun a => convC ty hp src t a
  | .sliceToArrayPointer t x => (ty t).bind fun d => (ev γ s x).bind fun a => match d.desc with
    | .array n _ => match a with
      | .slice b len _ => if n ≤ len ∧ 0 < n then some (.pointer b) else none
      | _ => none
    | _ => none
  | .makeInterface t x => (ty t).bind fun d => (ev γ s x).bind fun a => match d.desc with
    | .interface _ => none
    | _ => some (.iface t a)
  | .makeFunc fn first captured => (evs γ s first.toList).bind fun l => (evs γ s captured.toList).map fun m => .func fn l.toArray m.toArray
  | .slice t x lo hi mx => (ev γ s x).bind fun a => (evo γ s lo).bind fun l => (evo γ s hi).bind fun h => (evo γ s mx).bind fun m => sliceC ty hp t a l h m
  | .fieldAddr t x f => (ev γ s x).bind fun a => fieldAddrC ty t a f
  | .field t x f => (ev γ s x).bind fun a => fieldC ty t a f
  | .indexAddr t x i => (ev γ s x).bind fun a => (ev γ s i).bind fun b => indexAddrC ty t a b
  | .index t x i => (ev γ s x).bind fun a => (ev γ s i).bind fun b => indexC ty t a b
  | .extract x i => (ev γ s x).bind fun a => match a with
    | .tuple vs => vs.toList[i]?
    | _ => none
  | .call c => match c.callee with
    | .builtin b => (evs γ s c.args.toList).bind fun l => builtP ty c.argTypes b l
    | _ => none
  | _ => none
def isP : Op → Bool
  | .move _ | .assign _ | .pick .. | .build .. | .load .. | .nilCheck _ | .binOp .. | .unOp .. | .sliceToArrayPointer .. | .makeInterface .. | .makeFunc .. | .slice .. | .fieldAddr .. | .field .. | .indexAddr .. | .index .. | .extract .. => true
  | .convert .. => true
  | .call c => match c.callee with
    | .builtin .len => true
    | .builtin .min => true
    | .builtin .max => true
    | _ => false
  | _ => false
/-- Appending the cells xs (n elements) behind a slice. -/
def appendC (d : TD) (h : Heap) (s : Value) (n : Nat) (xs : List Value) : Option (Value × Heap) :=
  match s with
  | .slice a len cap =>
    if (len + n) * d.bytes ≤ 35184372088832 ∧ len + n ≤ 35184372088832 then
      match a with
      | none => if len = 0 ∧ cap = 0 ∧ 0 < d.size then some (.slice (some ⟨h.length, 0, none⟩) n OPEN, h ++ [some (grown xs d.size)]) else none
      | some ⟨i, k, none⟩ =>
        if len = 0 ∧ cap = 0 then (if 0 < d.size then some (.slice (some ⟨h.length, 0, none⟩) n OPEN, h ++ [some (grown xs d.size)]) else none) else
        match hget h i with
        | some (.cells cs own unit) =>
          if cap = OPEN then
            (match own with
            | true => if k + len * d.size = cs.length ∧ unit = d.size ∧ xs.all one1 = true then some (.slice (some ⟨h.length, 0, none⟩) (len + n) OPEN, h.set i none ++ [some (.cells (cs.drop k ++ xs) true d.size)]) else none
            | false => none)
          else if len + n ≤ cap then
            (if n = 0 then some (.slice (some ⟨i, k, none⟩) len cap, h) else none)
          else (slc cs k (len * d.size)).map fun old => (.slice (some ⟨h.length, 0, none⟩) (len + n) OPEN, h ++ [some (.cells (old ++ xs) true d.size)])
        | some (.void unit) => if cap = OPEN ∧ len = 0 ∧ k = 0 ∧ unit = d.size ∧ 0 < d.size ∧ xs.all one1 = true then some (.slice (some ⟨h.length, 0, none⟩) n OPEN, h.set i none ++ [some (grown xs d.size)]) else none
        | _ => none
      | _ => none
    else none
  | _ => none
def copyC (d : TD) (h : Heap) (dst src : Value) : Option (Value × Heap) :=
  (lenC src).bind fun ns => match ns with
    | .int _ n => match dst with
      | .slice a len _ =>
        (rowOf d.size h src).bind fun row => match a with
          | none => if len = 0 then some (.int .i64 0, h) else none
          | some ⟨i, k, none⟩ => match hget h i with
            | some (.cells cs own unit) => match own with
              | true => if k + (min n.toNat len) * d.size ≤ cs.length ∧ (row.take ((min n.toNat len) * d.size)).all one1 = true ∧ row.length = n.toNat * d.size then some (.int .i64 (min n.toNat len : Nat), h.set i (some (.cells (setL cs k (row.take ((min n.toNat len) * d.size))) true unit))) else none
              | false => none
            | _ => none
          | _ => none
      | _ => none
    | _ => none
/-- Operations that make or turn blocks (none calls a function of Go). -/
def semA (ty : TypeId → Option TD) (o : Op) (s : List (Nat × Ent)) (h : Heap) : Option (Value × Heap) :=
  match o with
  | .alloc t => (ty t).map fun d => (.pointer (some ⟨h.length, 0, none⟩), h ++ [some (.cells d.zero true 0)])
  | .box _ x => (ev true s x).map fun v => (.pointer (some ⟨h.length, 0, none⟩), h ++ [some (.cells v.cells.toList true 0)])
  | .buildSlice t n ps => (ty t).bind fun d => match d.desc with
    | .slice e => (ty e).bind fun d' => (evps true s ps.toList).bind fun l => if n * d'.size ≤ 16777216 ∧ n ≤ 16777216 then (fillC (fun i => some (i * d'.size, d'.size)) (zerosN d'.zero n) l).map fun cs => (.slice (some ⟨h.length, 0, none⟩) n n, h ++ [some (.cells cs true 0)]) else none
    | _ => none
  | .makeSlice t l c => (ty t).bind fun d => match d.desc with
    | .slice e => (ty e).bind fun d' => (ev true s l).bind fun l => (ev true s c).bind fun c => match l with
      | .int _ n => match c with
        | .int _ m => if 0 ≤ n ∧ n = m ∧ n * d'.bytes ≤ 281474976710656 ∧ n ≤ 9223372036854775807 then some (.slice (some ⟨h.length, 0, none⟩) n.toNat n.toNat, h ++ [some (.cells (zerosN d'.zero n.toNat) true 0)]) else none
        | _ => none
      | _ => none
    | _ => none
  | .convert src t x => (ty src).bind fun _ => (ty t).bind fun d => match d.desc with
    | .slice e => (ty e).bind fun d' => match d'.desc with
      | .int .u8 => (ev true s x).bind fun v => match v with
        | .string b => some (.slice (some ⟨h.length, 0, none⟩) b.size OPEN, h ++ [some (.cells (b.data.toList.map fun c => .int .u8 c.toNat) true 1)])
        | .slice (some ⟨i, k, none⟩) n c => if src = t ∧ n ≠ 0 then (lendC h i).map fun h' => (.slice (some ⟨i, k, none⟩) n c, h') else none
        | _ => none
      | _ => none
    | _ => none
  | .store t a x => (ty t).bind fun d => (ev true s a).bind fun p => (ev true s x).bind fun v => (storeC d h p v).map fun h' => (undef, h')
  | .call c => match c.callee with
    | .builtin .append => (c.argTypes[0]?).bind fun t => (ty t).bind fun d => match d.desc with
      | .slice e => (ty e).bind fun d' => (evs true s c.args.toList).bind fun l => match l with
        | x :: y :: _ => match c.argTypes[1]? with
          | some t2 => (ty t2).bind fun d2 => match d2.desc with
            | .int _ => none
            | _ => (lenC y).bind fun ny => match ny with
              | .int _ n => (rowOf d'.size h y).bind fun row => if row.length = n.toNat * d'.size then appendC d' h x n.toNat row else none
              | _ => none
          | none => none
        | _ => none
      | _ => none
    | .builtin .copy => (c.argTypes[0]?).bind fun t => (ty t).bind fun d => match d.desc with
      | .slice e => (ty e).bind fun d' => (evs true s c.args.toList).bind fun l => match l with
        | x :: y :: _ => copyC d' h x y
        | _ => none
      | _ => none
    | _ => none
  | _ => none
/-- The call that an operation makes: the function, and its arguments. -/
def callee (s : List (Nat × Ent)) (o : Op) : Option (FuncId × List Value) :=
  match o with
  | .call c => match c.callee with
    | .value f => (ev true s f).bind fun fv => (evs true s c.args.toList).bind fun l => match fv with
      | .func fn first captured => match fn with
        | .func f => some (f, first.toList ++ l ++ captured.toList)
        | _ => none
      | _ => none
    | _ => none
  | _ => none
def put (d : Option Tmp) (v : Ent) (tm : List (Nat × Ent)) : List (Nat × Ent) :=
  match d with
  | some t => (t, v) :: tm
  | none => tm
/-- Whether a guard is so: of the operation j's slot. -/
def guardC (all : List Oper) (s : List (Nat × Ent)) (g : Nat × Bool) : Option Bool :=
  ((all[g.1]?).bind fun o => o.dst).bind fun t => (lk s t).bind fun e => match e with
    | .v x => match x with
      | .bool b => some (b == g.2)
      | _ => none
    | .g β x => match x with
      | .bool b => some (β && (b == g.2))
      | _ => none
end
end Go.Sx
end
section
/-
  Sx, part B: how canonical values, heaps and slots stand to a world. Own words; no condition.
-/
namespace Go.Sx
open Go

/-- Where a canonical block lies, and how many cells there are from there on. -/
structure Place where
  block : Nat
  off : Nat
  room : Nat
  unit : Nat

inductive VR (ι : List Place) : Value → Value → Prop
  | same (v : Value) : closed1 v = true → VR ι v v
  | ptr (i k : Nat) (p : Place) : ι[i]? = some p → VR ι (.pointer (some ⟨i, k, none⟩)) (.pointer (some ⟨p.block, p.off + k, none⟩))
  | slice (i k len cap : Nat) (p : Place) : ι[i]? = some p → cap ≠ OPEN → VR ι (.slice (some ⟨i, k, none⟩) len cap) (.slice (some ⟨p.block, p.off + k, none⟩) len cap)
  | sliceO (i k len cap : Nat) (p : Place) : ι[i]? = some p → len ≤ cap → k + cap * p.unit ≤ p.room → VR ι (.slice (some ⟨i, k, none⟩) len OPEN) (.slice (some ⟨p.block, p.off + k, none⟩) len cap)
  | sliceE (i k : Nat) (p : Place) (b : Addr) : ι[i]? = some p → VR ι (.slice (some ⟨i, k, none⟩) 0 OPEN) (.slice (some b) 0 0)
  | sliceN (i k : Nat) (p : Place) : ι[i]? = some p → VR ι (.slice (some ⟨i, k, none⟩) 0 OPEN) (.slice none 0 0)
  | sliceZ (i k : Nat) (p : Place) (b : Addr) : ι[i]? = some p → VR ι (.slice (some ⟨i, k, none⟩) 0 0) (.slice (some b) 0 0)
  | iface (t : TypeId) (x y : Value) : VR ι x y → VR ι (.iface t x) (.iface t y)
  | agg (xs ys : Array Value) : xs.size = ys.size → (∀ (k : Nat) (x y : Value), xs[k]? = some x → ys[k]? = some y → VR ι x y) → VR ι (.agg xs) (.agg ys)
  | tuple (xs ys : Array Value) : xs.size = ys.size → (∀ (k : Nat) (x y : Value), xs[k]? = some x → ys[k]? = some y → VR ι x y) → VR ι (.tuple xs) (.tuple ys)
  | func (fn : Fn) (xs ys us vs : Array Value) : xs.size = ys.size → (∀ (k : Nat) (x y : Value), xs[k]? = some x → ys[k]? = some y → VR ι x y) →
      us.size = vs.size → (∀ (k : Nat) (x y : Value), us[k]? = some x → vs[k]? = some y → VR ι x y) → VR ι (.func fn xs us) (.func fn ys vs)
  | map (i : Nat) (p : Place) : ι[i]? = some p → VR ι (.map (some i)) (.map (some p.block))

theorem VR.mono {ι κ : List Place} (h : ι <+: κ) {x y : Value} (r : VR ι x y) : VR κ x y := by
  have hg : ∀ {i : Nat} {p : Place}, ι[i]? = some p → κ[i]? = some p := by
    intro i p hi
    obtain ⟨t, rfl⟩ := h
    rw [List.getElem?_append_left (List.getElem?_eq_some_iff.1 hi).1]; exact hi
  induction r with
  | same v h => exact .same v h
  | ptr i k p hp => exact .ptr i k p (hg hp)
  | slice i k l c p hp hc => exact .slice i k l c p (hg hp) hc
  | sliceO i k l c p hp h1 h2 => exact .sliceO i k l c p (hg hp) h1 h2
  | sliceE i k p b hp => exact .sliceE i k p b (hg hp)
  | sliceN i k p hp => exact .sliceN i k p (hg hp)
  | sliceZ i k p b hp => exact .sliceZ i k p b (hg hp)
  | iface t x y _ ih => exact .iface t x y ih
  | agg xs ys hs _ ih => exact .agg xs ys hs ih
  | tuple xs ys hs _ ih => exact .tuple xs ys hs ih
  | func fn xs ys us vs h1 _ h2 _ i1 i2 => exact .func fn xs ys us vs h1 i1 h2 i2
  | map i p hp => exact .map i p (hg hp)

/-- Rows of values, pairwise. -/
def VRs (ι : List Place) : List Value → List Value → Prop
  | [], [] => True
  | x :: xs, y :: ys => VR ι x y ∧ VRs ι xs ys
  | _, _ => False
theorem VRs.mono {ι κ : List Place} (h : ι <+: κ) : ∀ {xs ys : List Value}, VRs ι xs ys → VRs κ xs ys
  | [], [], _ => trivial
  | _ :: _, _ :: _, ⟨a, b⟩ => ⟨a.mono h, VRs.mono h b⟩
  | [], _ :: _, h => h.elim
  | _ :: _, [], h => h.elim
theorem VRs.length {ι : List Place} : ∀ {xs ys : List Value}, VRs ι xs ys → xs.length = ys.length
  | [], [], _ => rfl
  | _ :: _, _ :: _, ⟨_, b⟩ => by simp [VRs.length b]
  | [], _ :: _, h => h.elim
  | _ :: _, [], h => h.elim
theorem VRs.get {ι : List Place} : ∀ {xs ys : List Value}, VRs ι xs ys → ∀ (k : Nat) (x y : Value), xs[k]? = some x → ys[k]? = some y → VR ι x y
  | [], _, _, _, _, _, h, _ => by simp at h
  | _ :: _, _ :: _, ⟨a, _⟩, 0, _, _, hx, hy => by simp at hx hy; subst hx; subst hy; exact a
  | _ :: _, _ :: _, ⟨_, b⟩, k + 1, _, _, hx, hy => VRs.get b k _ _ (by simpa using hx) (by simpa using hy)
  | _ :: _, [], h, _, _, _, _, _ => h.elim
theorem VRs.get' {ι : List Place} {xs ys : List Value} (h : VRs ι xs ys) {k : Nat} {x : Value} (hx : xs[k]? = some x) : ∃ y, ys[k]? = some y ∧ VR ι x y := by
  have hk : k < ys.length := by rw [← h.length]; exact (List.getElem?_eq_some_iff.1 hx).1
  exact ⟨ys[k], by simp [hk], h.get k x _ hx (by simp [hk])⟩
theorem VRs.of {ι : List Place} : ∀ {xs ys : List Value}, xs.length = ys.length → (∀ (k : Nat) (x y : Value), xs[k]? = some x → ys[k]? = some y → VR ι x y) → VRs ι xs ys
  | [], [], _, _ => trivial
  | _ :: _, _ :: _, hl, h => ⟨h 0 _ _ rfl rfl, VRs.of (by simpa using hl) fun k x y hx hy => h (k + 1) x y (by simpa using hx) (by simpa using hy)⟩
  | [], _ :: _, h, _ => by simp at h
  | _ :: _, [], h, _ => by simp at h
theorem VRs.append {ι : List Place} : ∀ {xs ys us vs : List Value}, VRs ι xs ys → VRs ι us vs → VRs ι (xs ++ us) (ys ++ vs)
  | [], [], _, _, _, h => h
  | _ :: _, _ :: _, _, _, ⟨a, b⟩, h => ⟨a, VRs.append b h⟩
  | [], _ :: _, _, _, h, _ => h.elim
  | _ :: _, [], _, _, h, _ => h.elim
theorem VRs.drop {ι : List Place} : ∀ {xs ys : List Value} (k : Nat), VRs ι xs ys → VRs ι (xs.drop k) (ys.drop k)
  | _, _, 0, h => h
  | [], [], _ + 1, _ => trivial
  | _ :: _, _ :: _, k + 1, ⟨_, b⟩ => VRs.drop k b
  | [], _ :: _, _, h => h.elim
  | _ :: _, [], _, h => h.elim
theorem VRs.take {ι : List Place} : ∀ {xs ys : List Value} (k : Nat), VRs ι xs ys → VRs ι (xs.take k) (ys.take k)
  | _, _, 0, _ => by simp [VRs]
  | [], [], _ + 1, _ => trivial
  | _ :: _, _ :: _, k + 1, ⟨a, b⟩ => ⟨a, VRs.take k b⟩
  | [], _ :: _, _, h => h.elim
  | _ :: _, [], _, h => h.elim
theorem VRs.set {ι : List Place} {x y : Value} (hv : VR ι x y) : ∀ {xs ys : List Value} (k : Nat), VRs ι xs ys → VRs ι (xs.set k x) (ys.set k y)
  | [], [], _, _ => trivial
  | _ :: _, _ :: _, 0, ⟨_, b⟩ => ⟨hv, b⟩
  | _ :: _, _ :: _, k + 1, ⟨a, b⟩ => ⟨a, VRs.set hv k b⟩
  | [], _ :: _, _, h => h.elim
  | _ :: _, [], _, h => h.elim
theorem VRs.setL {ι : List Place} : ∀ {us vs : List Value}, VRs ι us vs → ∀ {xs ys : List Value} (k : Nat), VRs ι xs ys → VRs ι (setL xs k us) (setL ys k vs)
  | [], [], _, _, _, _, h => h
  | _ :: _, _ :: _, ⟨a, b⟩, _, _, k, h => VRs.setL b (k + 1) (VRs.set a k h)
  | [], _ :: _, h, _, _, _, _ => h.elim
  | _ :: _, [], h, _, _, _, _ => h.elim
theorem VRs.closed {ι : List Place} : ∀ {xs : List Value}, (∀ x ∈ xs, closed1 x = true) → VRs ι xs xs
  | [], _ => trivial
  | x :: _, h => ⟨.same x (h x (by simp)), VRs.closed fun y hy => h y (by simp [hy])⟩
theorem VR.agg' {ι : List Place} {xs ys : Array Value} (h : VRs ι xs.toList ys.toList) : VR ι (.agg xs) (.agg ys) :=
  .agg xs ys (by simpa using h.length) fun k x y hx hy => h.get k x y (by simpa using hx) (by simpa using hy)
theorem VR.tuple' {ι : List Place} {xs ys : Array Value} (h : VRs ι xs.toList ys.toList) : VR ι (.tuple xs) (.tuple ys) :=
  .tuple xs ys (by simpa using h.length) fun k x y hx hy => h.get k x y (by simpa using hx) (by simpa using hy)
theorem VR.agg_inv {ι : List Place} {xs : Array Value} {y : Value} (h : VR ι (.agg xs) y) : ∃ ys : Array Value, y = .agg ys ∧ VRs ι xs.toList ys.toList := by
  cases h with
  | same _ h => simp [closed1] at h
  | agg _ ys hs hk => exact ⟨ys, rfl, .of (by simpa using hs) fun k x y hx hy => hk k x y (by simpa using hx) (by simpa using hy)⟩
theorem VR.tuple_inv {ι : List Place} {xs : Array Value} {y : Value} (h : VR ι (.tuple xs) y) : ∃ ys : Array Value, y = .tuple ys ∧ VRs ι xs.toList ys.toList := by
  cases h with
  | same _ h => simp [closed1] at h
  | tuple _ ys hs hk => exact ⟨ys, rfl, .of (by simpa using hs) fun k x y hx hy => hk k x y (by simpa using hx) (by simpa using hy)⟩
theorem VR.func_inv {ι : List Place} {fn : Fn} {xs us : Array Value} {y : Value} (h : VR ι (.func fn xs us) y) :
    ∃ ys vs : Array Value, y = .func fn ys vs ∧ VRs ι xs.toList ys.toList ∧ VRs ι us.toList vs.toList := by
  cases h with
  | same _ h => simp [closed1] at h
  | func _ _ ys _ vs h1 k1 h2 k2 =>
    exact ⟨ys, vs, rfl, .of (by simpa using h1) fun k x y hx hy => k1 k x y (by simpa using hx) (by simpa using hy), .of (by simpa using h2) fun k x y hx hy => k2 k x y (by simpa using hx) (by simpa using hy)⟩
theorem VR.closed_inv {ι : List Place} {x y : Value} (h : VR ι x y) (hc : closed1 x = true) : y = x := by
  cases h <;> first | rfl | (simp [closed1] at hc)
theorem VR.int_inv {ι : List Place} {k : IntKind} {n : Int} {y : Value} (h : VR ι (.int k n) y) : y = .int k n := h.closed_inv rfl
theorem VR.bool_inv {ι : List Place} {b : Bool} {y : Value} (h : VR ι (.bool b) y) : y = .bool b := h.closed_inv rfl
theorem VR.string_inv {ι : List Place} {b : ByteArray} {y : Value} (h : VR ι (.string b) y) : y = .string b := h.closed_inv rfl
theorem VR.ptr_inv {ι : List Place} {i k : Nat} {y : Value} (h : VR ι (.pointer (some ⟨i, k, none⟩)) y) : ∃ p, ι[i]? = some p ∧ y = .pointer (some ⟨p.block, p.off + k, none⟩) := by
  cases h with
  | same _ h => simp [closed1] at h
  | ptr _ _ p hp => exact ⟨p, hp, rfl⟩
theorem VR.ptr_inv' {ι : List Place} {a : Addr} {y : Value} (h : VR ι (.pointer (some a)) y) : ∃ i k p, a = ⟨i, k, none⟩ ∧ ι[i]? = some p ∧ y = .pointer (some ⟨p.block, p.off + k, none⟩) := by
  cases h with
  | same _ h => simp [closed1] at h
  | ptr i k p hp => exact ⟨i, k, p, rfl, hp, rfl⟩
theorem VR.iface_inv {ι : List Place} {t : TypeId} {x y : Value} (h : VR ι (.iface t x) y) : ∃ z, y = .iface t z ∧ VR ι x z := by
  cases h with
  | same _ h => simp [closed1] at h
  | iface _ _ z hz => exact ⟨z, rfl, hz⟩
/-- What a slice is. -/
theorem VR.slice_inv {ι : List Place} {a : Addr} {len cap : Nat} {y : Value} (h : VR ι (.slice (some a) len cap) y) :
    (∃ i k p, a = ⟨i, k, none⟩ ∧ ι[i]? = some p ∧ cap ≠ OPEN ∧ y = .slice (some ⟨p.block, p.off + k, none⟩) len cap) ∨
    (∃ i k p c, a = ⟨i, k, none⟩ ∧ cap = OPEN ∧ ι[i]? = some p ∧ len ≤ c ∧ k + c * p.unit ≤ p.room ∧ y = .slice (some ⟨p.block, p.off + k, none⟩) len c) ∨
    (∃ b, (cap = OPEN ∨ cap = 0) ∧ len = 0 ∧ y = .slice (some b) 0 0 ∧ ∃ i k p, a = ⟨i, k, none⟩ ∧ ι[i]? = some p) ∨
    (cap = OPEN ∧ len = 0 ∧ y = .slice none 0 0 ∧ ∃ i k p, a = ⟨i, k, none⟩ ∧ ι[i]? = some p) := by
  cases h with
  | same _ h => simp [closed1] at h
  | slice i k _ _ p hp hc => exact .inl ⟨i, k, p, rfl, hp, hc, rfl⟩
  | sliceO i k _ c p hp h1 h2 => exact .inr (.inl ⟨i, k, p, c, rfl, rfl, hp, h1, h2, rfl⟩)
  | sliceE i k p b hp => exact .inr (.inr (.inl ⟨b, .inl rfl, rfl, rfl, i, k, p, rfl, hp⟩))
  | sliceN i k p hp => exact .inr (.inr (.inr ⟨rfl, rfl, rfl, i, k, p, rfl, hp⟩))
  | sliceZ i k p b hp => exact .inr (.inr (.inl ⟨b, .inr rfl, rfl, rfl, i, k, p, rfl, hp⟩))
theorem VR.cells {ι : List Place} {x y : Value} (h : VR ι x y) : VRs ι x.cells.toList y.cells.toList := by
  by_cases hx : ∃ xs, x = .agg xs
  · obtain ⟨xs, rfl⟩ := hx
    obtain ⟨ys, rfl, hr⟩ := h.agg_inv
    exact hr
  · have hy : ¬ ∃ ys, y = .agg ys := by
      rintro ⟨ys, rfl⟩
      cases h with
      | same _ h => simp [closed1] at h
      | agg xs _ _ _ => exact hx ⟨xs, rfl⟩
    have e : ∀ z : Value, (¬ ∃ zs, z = .agg zs) → z.cells = #[z] := by
      intro z hz
      cases z <;> first | rfl | exact absurd ⟨_, rfl⟩ hz
    rw [e x hx, e y hy]
    exact ⟨h, trivial⟩
theorem VR.one1 {ι : List Place} {x y : Value} (h : VR ι x y) (ho : one1 x = true) : one1 y = true := by
  cases h <;> first | exact ho | rfl | (simp [Sx.one1] at ho)

/-- A map's entries, pairwise. -/
def EsR (ι : List Place) : List MapEntry → List MapEntry → Prop
  | [], [] => True
  | x :: xs, y :: ys => VR ι x.key y.key ∧ VR ι x.val y.val ∧ x.born = y.born ∧ EsR ι xs ys
  | _, _ => False
theorem EsR.mono {ι κ : List Place} (h : ι <+: κ) : ∀ {xs ys : List MapEntry}, EsR ι xs ys → EsR κ xs ys
  | [], [], _ => trivial
  | _ :: _, _ :: _, ⟨a, b, c, d⟩ => ⟨a.mono h, b.mono h, c, EsR.mono h d⟩
  | [], _ :: _, h => h.elim
  | _ :: _, [], h => h.elim

/-- What a block of the canonical heap says of the world. -/
def BlkR (ι : List Place) (w : World) (p : Place) : Blk → Prop
  | .cells cs own unit => (∀ k x, cs[k]? = some x → ∃ y, w.cell? ⟨p.block, p.off + k, none⟩ = some y ∧ VR ι x y) ∧ p.block < w.heap.size ∧
      (own = true → cs.length ≤ p.room ∧ p.unit = unit ∧ ∀ k, k < p.room → (∃ y, w.cell? ⟨p.block, p.off + k, none⟩ = some y) ∧ w.frozen? ⟨p.block, p.off + k, none⟩ = false)
  | .map es clock => ∃ es', w.heap[p.block]? = some (.map es' clock) ∧ EsR ι es es'.toList
  | .void u => p.room = 0 ∧ p.unit = u
def owns : Blk → Bool
  | .cells _ o _ => o
  | .map _ _ => true
  | .void _ => false
/-- Whether there is anything in it. -/
def solid : Blk → Bool
  | .void _ => false
  | _ => true
/-- The heap. -/
structure RelH (ι : List Place) (h : Heap) (w : World) : Prop where
  len : ι.length = h.length
  blk : ∀ i b, hget h i = some b → ∃ p, ι[i]? = some p ∧ BlkR ι w p b
  apart : ∀ i j b c p q, hget h i = some b → owns b = true → hget h j = some c → solid c = true → i ≠ j → ι[i]? = some p → ι[j]? = some q → p.block ≠ q.block
/-- What became of the world: only own blocks may have turned. -/
structure Grow (ι : List Place) (h : Heap) (w : World) (κ : List Place) (h' : Heap) (w' : World) : Prop where
  pre : ι <+: κ
  os : w'.os = w.os
  tape : w'.tape = w.tape
  output : w'.output = w.output
  size : w.heap.size ≤ w'.heap.size
  keep : ∀ b, b < w.heap.size → (∀ i c p, hget h i = some c → owns c = true → ι[i]? = some p → p.block ≠ b) → w'.heap[b]? = w.heap[b]?
  own : ∀ i c p, hget h' i = some c → owns c = true → κ[i]? = some p → (∃ j d q, hget h j = some d ∧ owns d = true ∧ ι[j]? = some q ∧ p.block = q.block) ∨ w.heap.size ≤ p.block
theorem Grow.refl (ι : List Place) (h : Heap) (w : World) : Grow ι h w ι h w :=
  ⟨List.prefix_refl _, rfl, rfl, rfl, Nat.le_refl _, fun _ _ _ => rfl, fun i c p h1 h2 h3 => .inl ⟨i, c, p, h1, h2, h3, rfl⟩⟩
theorem Grow.trans {ι κ μ : List Place} {h h' h'' : Heap} {w w' w'' : World} (g : Grow ι h w κ h' w') (g' : Grow κ h' w' μ h'' w'') : Grow ι h w μ h'' w'' where
  pre := g.pre.trans g'.pre
  os := g'.os.trans g.os
  tape := g'.tape.trans g.tape
  output := g'.output.trans g.output
  size := Nat.le_trans g.size g'.size
  keep := fun b hb hk => by
    rw [g'.keep b (Nat.lt_of_lt_of_le hb g.size) ?_, g.keep b hb hk]
    intro i c p h1 h2 h3 e
    rcases g.own i c p h1 h2 h3 with ⟨j, d, q, a1, a2, a3, a4⟩ | hle
    · exact hk j d q a1 a2 a3 (a4.symm.trans e)
    · omega
  own := fun i c p h1 h2 h3 => by
    rcases g'.own i c p h1 h2 h3 with ⟨j, d, q, a1, a2, a3, a4⟩ | hle
    · rcases g.own j d q a1 a2 a3 with ⟨j', d', q', b1, b2, b3, b4⟩ | hle
      · exact .inl ⟨j', d', q', b1, b2, b3, a4.trans b4⟩
      · exact .inr (by omega)
    · exact .inr (Nat.le_trans g.size hle)
/-- Slots. -/
def ER (ι : List Place) : Ent → Value → Prop
  | .v x, y => VR ι x y
  | .g β x, y => if β = true then VR ι x y else y = undef
def RelT (ι : List Place) (tm : List (Nat × Ent)) (N : Nat) (a : Act) : Prop :=
  a.defers = [] ∧ a.tmps.size = N ∧ ∀ t e, lk tm t = some e → ∃ y, a.tmps[t]? = some y ∧ ER ι e y
theorem ER.mono {ι κ : List Place} (h : ι <+: κ) {e : Ent} {y : Value} (r : ER ι e y) : ER κ e y := by
  cases e with
  | v x => exact VR.mono h r
  | g β x =>
    simp only [ER] at *
    by_cases hb : β = true
    · rw [if_pos hb] at *; exact VR.mono h r
    · rw [if_neg hb] at *; exact r
theorem RelT.mono {ι κ : List Place} (h : ι <+: κ) {tm : List (Nat × Ent)} {N : Nat} {a : Act} (r : RelT ι tm N a) : RelT κ tm N a :=
  ⟨r.1, r.2.1, fun t e ht => let ⟨y, h1, h2⟩ := r.2.2 t e ht; ⟨y, h1, h2.mono h⟩⟩
/-- An operand's value. -/
theorem RelT.ev {ι : List Place} {tm : List (Nat × Ent)} {N : Nat} {a : Act} (r : RelT ι tm N a) {γ : Bool} (hγ : γ = true) {x : Operand} {v : Value} (h : Sx.ev γ tm x = some v) : VR ι v (a.eval x) := by
  cases x with
  | tmp t =>
    simp only [Sx.ev] at h
    cases hl : lk tm t with
    | none => simp [hl] at h
    | some e =>
      obtain ⟨y, hy, he⟩ := r.2.2 t e hl
      have ha : a.eval (.tmp t) = y := by simp [Act.eval, hy]
      rw [ha]
      cases e with
      | v x => simp [hl] at h; subst h; exact he
      | g β x =>
        simp only [hl] at h
        split at h
        · rename_i hb
          simp at h; subst h
          simp only [ER, hb hγ, if_true] at he
          exact he
        · simp at h
  | const c =>
    simp only [Sx.ev] at h
    split at h
    · rename_i hc; simp at h; subst h; exact .same _ hc
    · simp at h
  | global g => simp [Sx.ev] at h
  | func f =>
    simp [Sx.ev] at h; subst h
    exact .func _ _ _ _ _ rfl (fun k x y hx => by simp at hx) rfl (fun k x y hx => by simp at hx)
theorem RelT.evs {ι : List Place} {tm : List (Nat × Ent)} {N : Nat} {a : Act} (r : RelT ι tm N a) {γ : Bool} (hγ : γ = true) : ∀ {xs : List Operand} {vs : List Value}, Sx.evs γ tm xs = some vs → VRs ι vs (xs.map a.eval)
  | [], vs, h => by simp [Sx.evs, all2] at h; subst h; trivial
  | x :: xs, vs, h => by
    simp only [Sx.evs, List.map_cons, all2, Option.bind_eq_some_iff, Option.map_eq_some_iff] at h
    obtain ⟨v, hv, l, hl, rfl⟩ := h
    exact ⟨r.ev hγ hv, RelT.evs r hγ (xs := xs) hl⟩
theorem RelT.put {ι : List Place} {tm : List (Nat × Ent)} {N : Nat} {a : Act} (r : RelT ι tm N a) {d : Option Tmp} (hd : ∀ t, d = some t → t < N) {e : Ent} {y : Value} (he : ER ι e y) : RelT ι (Sx.put d e tm) N (a.put d y) := by
  cases d with
  | none => exact r
  | some t =>
    refine ⟨r.1, by simp [Act.put, r.2.1], fun u e' hu => ?_⟩
    simp only [Sx.put, lk] at hu
    split at hu
    · rename_i htu
      subst htu
      simp at hu; subst hu
      refine ⟨y, ?_, he⟩
      have := hd t rfl
      simp [Act.put, r.2.1, this]
    · rename_i htu
      obtain ⟨z, hz, hz'⟩ := r.2.2 u e' hu
      exact ⟨z, by simp [Act.put, Array.getElem?_setIfInBounds_ne htu, hz], hz'⟩
/-- What is known of the types is so. -/
structure TyOk (P : Program) (ty : TypeId → Option TD) : Prop where
  und : ∀ t d, ty t = some d → P.underlying t = some d.desc
  inf : ∀ t d, ty t = some d → ∃ i v, P.info? t = some i ∧ i.size = d.size ∧ i.bytes = d.bytes ∧ i.zero = some v ∧ v.cells.toList = d.zero ∧ d.zero.length = d.size ∧ (∀ z ∈ d.zero, closed1 z = true)
  eqf : ∀ t d, ty t = some d → d.eqf = true → ∀ (w : World) xs ys b, flatEq d.zero xs ys = some b → (Op.equal t (.agg xs.toArray) (.agg ys.toArray)).run P w = .ok b w ∧ P.eqGuardType P.depth t = false
end Go.Sx
end
section
/-
  Sx, part C: the operations that leave the heap as it is do what is said of them. Own words; no condition.
-/
namespace Go.Sx
open Go
variable {P : Program} {ty : TypeId → Option TD}

theorem TyOk.underlying (T : TyOk P ty) {t : TypeId} {d : TD} (h : ty t = some d) (w : World) : (Go.underlying t).run P w = .ok d.desc w := by
  simp [Go.underlying, T.und t d h]
theorem TyOk.typeInfo (T : TyOk P ty) {t : TypeId} {d : TD} (h : ty t = some d) (w : World) : ∃ i v, (Go.typeInfo t).run P w = .ok i w ∧ i.size = d.size ∧ i.bytes = d.bytes ∧ i.zero = some v ∧ v.cells.toList = d.zero := by
  obtain ⟨i, v, hi, h1, h2, h3, h4, _⟩ := T.inf t d h
  exact ⟨i, v, by simp [Go.typeInfo, hi], h1, h2, h3, h4⟩
theorem TyOk.sizeOf (T : TyOk P ty) {t : TypeId} {d : TD} (h : ty t = some d) (w : World) : (Go.sizeOf t).run P w = .ok d.size w := by
  obtain ⟨i, v, hi, h1, _⟩ := T.typeInfo h w
  simp [Go.sizeOf, hi, h1]
theorem TyOk.isAgg (T : TyOk P ty) {t : TypeId} {d : TD} (h : ty t = some d) (w : World) : (Go.isAgg t).run P w = .ok (isAggD d.desc) w := by
  simp only [Go.isAgg, Sem.run_bind, T.underlying h w, Result.andThen_ok]
  cases d.desc <;> rfl
theorem TyOk.zeroValue (T : TyOk P ty) {t : TypeId} {d : TD} (h : ty t = some d) (w : World) : ∃ v, (Go.zeroValue t).run P w = .ok v w ∧ v.cells.toList = d.zero := by
  obtain ⟨i, v, hi, _, _, h3, h4⟩ := T.typeInfo h w
  exact ⟨v, by simp [Go.zeroValue, hi, h3], h4⟩

theorem slc_some {cs l : List Value} {off n : Nat} (h : slc cs off n = some l) : off + n ≤ cs.length ∧ l = (cs.drop off).take n := by
  unfold slc at h
  split at h
  · simp at h; exact ⟨by assumption, h.symm⟩
  · simp at h
theorem slc_length {cs l : List Value} {off n : Nat} (h : slc cs off n = some l) : l.length = n := by
  obtain ⟨h1, rfl⟩ := slc_some h
  simp; omega
theorem slc_get {cs l : List Value} {off n : Nat} (h : slc cs off n = some l) {j : Nat} (hj : j < n) : l[j]? = cs[off + j]? := by
  obtain ⟨h1, rfl⟩ := slc_some h
  rw [List.getElem?_take_of_lt hj, List.getElem?_drop]
theorem slc_VRs {ι : List Place} {cs cs' l : List Value} {off n : Nat} (h : slc cs off n = some l) (r : VRs ι cs cs') : ∃ l', slc cs' off n = some l' ∧ VRs ι l l' := by
  obtain ⟨h1, rfl⟩ := slc_some h
  refine ⟨(cs'.drop off).take n, ?_, (r.drop off).take n⟩
  unfold slc
  rw [if_pos (by rw [← r.length]; exact h1)]

theorem addr_add (b o i : Nat) : (⟨b, o, none⟩ : Addr).add i = ⟨b, o + i, none⟩ := by
  unfold Addr.add
  split
  · rename_i h; subst h; rfl
  · rfl

/-- Cells of a block, in a row, as they stand in the world. -/
theorem cells_row {ι : List Place} {w : World} {p : Place} {cs : List Value} (hc : ∀ k x, cs[k]? = some x → ∃ y, w.cell? ⟨p.block, p.off + k, none⟩ = some y ∧ VR ι x y) {k n : Nat} {l : List Value} (h : slc cs k n = some l) :
    ∃ l' : List Value, VRs ι l l' ∧ l'.length = n ∧ ∀ j v, l'[j]? = some v → w.cell? ((⟨p.block, p.off + k, none⟩ : Addr).add j) = some v := by
  have hl := slc_length h
  have step : ∀ m, m ≤ n → ∃ l' : List Value, VRs ι (l.take m) l' ∧ l'.length = m ∧ ∀ j v, l'[j]? = some v → w.cell? ((⟨p.block, p.off + k, none⟩ : Addr).add j) = some v := by
    intro m
    induction m with
    | zero => intro _; exact ⟨[], by simp [VRs], rfl, fun j v hj => by simp at hj⟩
    | succ m ih =>
      intro hm
      obtain ⟨l', h1, h2, h3⟩ := ih (by omega)
      have hlt : m < l.length := by omega
      obtain ⟨y, hy, hr⟩ := hc (k + m) l[m] (by rw [← slc_get h (by omega)]; simp [hlt])
      refine ⟨l' ++ [y], ?_, by simp [h2], ?_⟩
      · rw [List.take_succ_eq_append_getElem hlt]
        exact h1.append ⟨hr, trivial⟩
      · intro j v hj
        by_cases hjm : j < m
        · rw [List.getElem?_append_left (by omega)] at hj; exact h3 j v hj
        · have hje : j = m := by
            have := (List.getElem?_eq_some_iff.1 hj).1
            simp [h2] at this; omega
          subst hje
          rw [List.getElem?_append_right (by omega)] at hj
          simp [h2] at hj; subst hj
          rw [addr_add]
          rw [Nat.add_assoc]; exact hy
  obtain ⟨l', h1, h2, h3⟩ := step n (Nat.le_refl _)
  rw [List.take_of_length_le (by omega)] at h1
  exact ⟨l', h1, h2, h3⟩
theorem cellsAt_some {h : Heap} {i : Nat} {cs : List Value} (hc : cellsAt h i = some cs) : (∃ o u, hget h i = some (.cells cs o u)) ∨ cs = [] := by
  unfold cellsAt at hc
  split at hc
  · rename_i cs' o u hg; simp at hc; subst hc; exact .inl ⟨o, u, hg⟩
  · simp at hc; exact .inr hc
  · simp at hc
theorem RelH.cells {ι : List Place} {h : Heap} {w : World} (R : RelH ι h w) {i : Nat} {cs : List Value} (hc : cellsAt h i = some cs) {p : Place} (hp : ι[i]? = some p) :
    ∀ k x, cs[k]? = some x → ∃ y, w.cell? ⟨p.block, p.off + k, none⟩ = some y ∧ VR ι x y := by
  rcases cellsAt_some hc with ⟨o, u, hg⟩ | rfl
  · obtain ⟨q, hq, hb⟩ := R.blk i _ hg
    rw [hp] at hq; simp at hq; subst hq
    exact hb.1
  · intro k x hx; simp at hx

theorem run_loadVar {ι : List Place} {h : Heap} {w : World} (T : TyOk P ty) (R : RelH ι h w) {t : TypeId} {d : TD} (ht : ty t = some d) {p v : Value} {p' : Value} (hp : VR ι p p') (hl : loadC d h p = some v) :
    ∃ y, (Instr.loadAt t p').run P w = .ok y w ∧ VR ι v y := by
  unfold loadC at hl
  split at hl
  · rename_i i k
    obtain ⟨q, hq, rfl⟩ := hp.ptr_inv
    split at hl
    · rename_i cs hcs
      have hc := R.cells hcs hq
      by_cases ha : isAggD d.desc = true
      · rw [if_pos ha] at hl
        simp only [Option.map_eq_some_iff] at hl
        obtain ⟨l, hs, rfl⟩ := hl
        obtain ⟨l', h1, h2, h3⟩ := cells_row hc hs
        refine ⟨.agg l'.toArray, ?_, VR.agg' (by simpa using h1)⟩
        have hrun := run_loadCells_list (P := P) (w := w) ⟨q.block, q.off + k, none⟩ l' h3
        rw [h2] at hrun
        simp [Instr.loadAt, Instr.sureAddr, loadVar, T.isAgg ht, ha, T.sizeOf ht, hrun]
      · rw [if_neg ha] at hl
        obtain ⟨y, hy, hr⟩ := hc k v hl
        refine ⟨y, ?_, hr⟩
        simp [Instr.loadAt, Instr.sureAddr, loadVar, T.isAgg ht, ha, hy]
    · simp at hl
  · simp at hl

theorem run_part (T : TyOk P ty) {t : TypeId} {d : TD} (ht : ty t = some d) {ι : List Place} {cs cs' : List Value} (r : VRs ι cs cs') {off : Nat} {v : Value} (h : partC d cs off = some v) (w : World) :
    ∃ y, (part t cs'.toArray off).run P w = .ok y w ∧ VR ι v y := by
  unfold partC at h
  by_cases ha : isAggD d.desc = true
  · rw [if_pos ha] at h
    simp only [Option.map_eq_some_iff] at h
    obtain ⟨l, hs, rfl⟩ := h
    obtain ⟨l', hs', r'⟩ := slc_VRs hs r
    obtain ⟨_, rfl⟩ := slc_some hs'
    refine ⟨_, by simp only [part, Sem.run_bind, T.isAgg ht, Result.andThen_ok, ha, if_true, T.sizeOf ht, Sem.run_pure]; rfl, VR.agg' ?_⟩
    have e : ((cs'.toArray).extract off (off + d.size)).toList = (cs'.drop off).take d.size := by simp
    rw [e]; simpa using r'
  · rw [if_neg ha] at h
    obtain ⟨y, hy, hr⟩ := r.get' h
    refine ⟨y, ?_, hr⟩
    simp [part, T.isAgg ht, ha, hy]

theorem flatEq_self {zs : List Value} : ∀ {xs ys : List Value} {b : Bool}, flatEq zs xs ys = some b → (∀ x ∈ xs, closed1 x = true) ∧ (∀ y ∈ ys, closed1 y = true) ∧ xs.length = zs.length ∧ ys.length = zs.length := by
  induction zs with
  | nil =>
    intro xs ys b h
    cases xs <;> cases ys <;> simp [flatEq] at h ⊢
  | cons z zs ih =>
    intro xs ys b h
    cases z <;> cases xs <;> cases ys <;> try simp [flatEq] at h
    all_goals
      rename_i x xs y ys
      cases x <;> cases y <;> try simp [flatEq] at h
    · obtain ⟨c, hc⟩ : ∃ c, flatEq zs xs ys = some c := by rcases h with h | h <;> exact ⟨_, h.1⟩
      obtain ⟨h1, h2, h3, h4⟩ := ih hc
      exact ⟨by simpa [closed1] using h1, by simpa [closed1] using h2, by simp [h3], by simp [h4]⟩
    · obtain ⟨c, hc⟩ : ∃ c, flatEq zs xs ys = some c := by rcases h.2 with h | h <;> exact ⟨_, h.1⟩
      obtain ⟨h1, h2, h3, h4⟩ := ih hc
      exact ⟨by simpa [closed1] using h1, by simpa [closed1] using h2, by simp [h3], by simp [h4]⟩
    · obtain ⟨c, hc⟩ : ∃ c, flatEq zs xs ys = some c := by rcases h with h | h <;> exact ⟨_, h.1⟩
      obtain ⟨h1, h2, h3, h4⟩ := ih hc
      exact ⟨by simpa [closed1] using h1, by simpa [closed1] using h2, by simp [h3], by simp [h4]⟩
theorem VRs.closed_inv {ι : List Place} : ∀ {xs ys : List Value}, VRs ι xs ys → (∀ x ∈ xs, closed1 x = true) → ys = xs
  | [], [], _, _ => rfl
  | x :: xs, y :: ys, ⟨a, b⟩, h => by rw [a.closed_inv (h x (by simp)), VRs.closed_inv b fun z hz => h z (by simp [hz])]
  | [], _ :: _, h, _ => h.elim
  | _ :: _, [], h, _ => h.elim
end Go.Sx
end
