/-
  Sx, part W: more rules: slicing, building, appending, copying. Own words; no condition.
-/
import Derived.Test.YtfefdjomenfchaaSxZ
namespace Go.Sx
open Go
variable {P : Program} {ty : TypeId → Option TD} {N : Nat} {X : Mode}
section
variable (K : St → Prop) (tm : List (Nat × Ent)) (h : Heap) (d : Option Tmp)
theorem OPEN_eq : OPEN = 1180591620717411303424 := rfl
@[simp] theorem E_stap (t : TypeId) (x : Operand) : E P X ty (.sliceToArrayPointer t x) d K tm h = req (ty t) fun D => req (ev true tm x) fun a => req (match D.desc with
      | .array n _ => match a with
        | .slice b len _ => if n ≤ len ∧ 0 < n then some (.pointer b) else none
        | _ => none
      | _ => none) fun v => K ⟨put d (.v v) tm, h⟩ := by
  simp only [E, execR, callee, kindA, semX, semP, req_bind]
  exact nd rfl
/-! slicing -/
@[simp] theorem boundC_n (a b : Nat) : boundC none a b = if a ≤ b then some a else none := nd rfl
@[simp] theorem boundC_v (k : IntKind) (i : Int) (a b : Nat) : boundC (some (.int k i)) a b = if 0 ≤ i ∧ i ≤ b then some i.toNat else none := nd rfl
@[simp] theorem mkSl_eq (a : Option Addr) (l c : Nat) : mkSl a l c = if c = OPEN then none else some (.slice a l c) := nd rfl
def slcO (hp : Heap) (sz b k len : Nat) (lo hi mx : Option Value) : Option Value :=
  match mx with
  | some _ => match hi with
    | some _ => (boundC mx len len).bind fun m => (boundC hi len m).bind fun h => (boundC lo 0 h).bind fun l => if m = l then none else mkSl (some ⟨b, k + l * sz, none⟩) (h - l) (m - l)
    | none => none
  | none => (boundC hi len len).bind fun h => (boundC lo 0 h).bind fun l => if ownUnit hp b = some sz then some (.slice (some ⟨b, k + l * sz, none⟩) (h - l) OPEN) else none
def slcN (sz b k len cap : Nat) (lo hi mx : Option Value) : Option Value :=
  match mx with
  | some _ => match hi with
    | some _ => (boundC mx cap cap).bind fun m => (boundC hi len m).bind fun h => (boundC lo 0 h).bind fun l => mkSl (some (if m = l then ⟨b, k, none⟩ else ⟨b, k + l * sz, none⟩)) (h - l) (m - l)
    | none => none
  | none => (boundC hi len cap).bind fun h => (boundC lo 0 h).bind fun l => mkSl (some (if cap = l then ⟨b, k, none⟩ else ⟨b, k + l * sz, none⟩)) (h - l) (cap - l)
def slcE (len cap : Nat) (lo hi mx : Option Value) : Option Value :=
  match mx with
  | some _ => match hi with
    | some _ => (boundC mx cap cap).bind fun m => (boundC hi len m).bind fun h => (boundC lo 0 h).bind fun l => some (.slice none (h - l) (m - l))
    | none => none
  | none => (boundC hi len cap).bind fun h => (boundC lo 0 h).bind fun l => some (.slice none (h - l) (cap - l))
def slcS (s : ByteArray) (lo hi mx : Option Value) : Option Value :=
  match mx with
  | none => (boundC hi s.size s.size).bind fun h => (boundC lo 0 h).map fun l => .string (s.extract l h)
  | some _ => none
def slcD (ty : TypeId → Option TD) (hp : Heap) (D : TypeDesc) (x : Value) (lo hi mx : Option Value) : Option Value :=
  match D with
  | .slice e => (ty e).bind fun d' => match x with
    | .slice (some ⟨b, k, none⟩) len cap => if cap = OPEN then slcO hp d'.size b k len lo hi mx else slcN d'.size b k len cap lo hi mx
    | .slice none len cap => if cap = OPEN then none else slcE len cap lo hi mx
    | _ => none
  | .string => match x with
    | .string s => slcS s lo hi mx
    | _ => none
  | .array n e => (ty e).bind fun d' => match x with
    | .pointer (some ⟨b, k, none⟩) => slcN d'.size b k n n lo hi mx
    | _ => none
  | _ => none
theorem bind_none' {α β : Type} (o : Option α) : (o.bind fun _ => (none : Option β)) = none := by cases o <;> rfl
@[simp] theorem sliceC_eq (t : TypeId) (x : Value) (lo hi mx : Option Value) : sliceC ty h t x lo hi mx = (ty t).bind fun d => slcD ty h d.desc x lo hi mx := by
  unfold sliceC
  cases ty t with
  | none => rfl
  | some D =>
    simp only [Option.bind_some]
    cases hD : D.desc with
    | slice e =>
      simp only [slcD]
      cases ty e with
      | none => rfl
      | some D' =>
        simp only [Option.bind_some]
        cases x with
        | slice a len cap =>
          cases a with
          | none =>
            simp only
            by_cases hc : cap = OPEN
            · rw [if_pos hc, if_pos hc]
              cases mx with
              | none => simp only [bind_none']
              | some _ => cases hi <;> simp only [bind_none']
            · rw [if_neg hc, if_neg hc]; rfl
          | some a =>
            obtain ⟨b, k, sp⟩ := a
            cases sp with
            | none =>
              simp only
              by_cases hc : cap = OPEN
              · rw [if_pos hc, if_pos hc]; rfl
              · rw [if_neg hc, if_neg hc]; rfl
            | some _ =>
              simp only
              by_cases hc : cap = OPEN
              · rw [if_pos hc]
                cases mx with
                | none => simp only [bind_none']
                | some _ => cases hi <;> simp only [bind_none']
              · rw [if_neg hc]
                cases mx with
                | none => simp only [bind_none']
                | some _ => cases hi <;> simp only [bind_none']
        | _ => rfl
    | string => simp only [slcD]; cases x <;> rfl
    | array n e =>
      simp only [slcD]
      cases ty e with
      | none => rfl
      | some D' =>
        simp only [Option.bind_some]
        cases x with
        | pointer a =>
          cases a with
          | none => rfl
          | some a => obtain ⟨b, k, sp⟩ := a; cases sp <;> rfl
        | _ => rfl
    | _ => simp only [slcD]
@[simp] theorem slcD_slice (e : TypeId) (b k len cap : Nat) (lo hi mx : Option Value) : slcD ty h (.slice e) (.slice (some ⟨b, k, none⟩) len cap) lo hi mx = (ty e).bind fun d' => if cap = OPEN then slcO h d'.size b k len lo hi mx else slcN d'.size b k len cap lo hi mx := nd rfl
@[simp] theorem slcD_nil (e : TypeId) (len cap : Nat) (lo hi mx : Option Value) : slcD ty h (.slice e) (.slice none len cap) lo hi mx = (ty e).bind fun _ => if cap = OPEN then none else slcE len cap lo hi mx := nd rfl
@[simp] theorem slcD_string (s : ByteArray) (lo hi mx : Option Value) : slcD ty h .string (.string s) lo hi mx = slcS s lo hi mx := nd rfl
@[simp] theorem slcD_array (n : Nat) (e : TypeId) (b k : Nat) (lo hi mx : Option Value) : slcD ty h (.array n e) (.pointer (some ⟨b, k, none⟩)) lo hi mx = (ty e).bind fun d' => slcN d'.size b k n n lo hi mx := nd rfl
@[simp] theorem slcN_2 (sz b k len cap : Nat) (lo hi : Option Value) : slcN sz b k len cap lo hi none = (boundC hi len cap).bind fun h => (boundC lo 0 h).bind fun l => mkSl (some ⟨b, if cap = l then k else k + l * sz, none⟩) (h - l) (cap - l) := by
  simp only [slcN]
  congr 1; funext u; congr 1; funext l
  by_cases hc : cap = l <;> simp [hc]
@[simp] theorem slcN_3 (sz b k len cap : Nat) (lo : Option Value) (x y : Value) : slcN sz b k len cap lo (some x) (some y) = (boundC (some y) cap cap).bind fun m => (boundC (some x) len m).bind fun h => (boundC lo 0 h).bind fun l => mkSl (some ⟨b, if m = l then k else k + l * sz, none⟩) (h - l) (m - l) := by
  simp only [slcN]
  congr 1; funext m; congr 1; funext u; congr 1; funext l
  by_cases hc : m = l <;> simp [hc]
@[simp] theorem slcO_2 (sz b k len : Nat) (lo hi : Option Value) : slcO h sz b k len lo hi none = (boundC hi len len).bind fun u => (boundC lo 0 u).bind fun l => if ownUnit h b = some sz then some (.slice (some ⟨b, k + l * sz, none⟩) (u - l) OPEN) else none := nd rfl
@[simp] theorem slcO_3 (sz b k len : Nat) (lo : Option Value) (x y : Value) : slcO h sz b k len lo (some x) (some y) = (boundC (some y) len len).bind fun m => (boundC (some x) len m).bind fun u => (boundC lo 0 u).bind fun l => if m = l then none else mkSl (some ⟨b, k + l * sz, none⟩) (u - l) (m - l) := nd rfl
@[simp] theorem slcE_2 (len cap : Nat) (lo hi : Option Value) : slcE len cap lo hi none = (boundC hi len cap).bind fun h => (boundC lo 0 h).bind fun l => some (.slice none (h - l) (cap - l)) := nd rfl
@[simp] theorem slcS_2 (s : ByteArray) (lo hi : Option Value) : slcS s lo hi none = (boundC hi s.size s.size).bind fun h => (boundC lo 0 h).map fun l => .string (s.extract l h) := nd rfl
def unitB (b : Option Blk) : Option Nat :=
  match b with
  | some (.cells _ true u) => some u
  | some (.void u) => some u
  | _ => none
@[simp] theorem unitB_grown (cs : List Value) (u : Nat) : unitB (some (grown cs u)) = some u := by cases cs <;> rfl
@[simp] theorem unitB_own (cs : List Value) (u : Nat) : unitB (some (.cells cs true u)) = some u := nd rfl
@[simp] theorem ownUnit_eq (i : Nat) : ownUnit h i = unitB (hget h i) := by
  unfold ownUnit unitB
  cases hget h i with
  | none => rfl
  | some b => cases b with
    | map _ _ => rfl
    | void _ => rfl
    | cells cs o u => cases o <;> rfl
/-! building -/
def bldD (ty : TypeId → Option TD) (D : TypeDesc) (z : List Value) (ps : List (Nat × Value)) : Option Value :=
  match D with
  | .struct fs => if fieldsKnown ty fs.toList = true then (fillC (fplace ty fs) z ps).map fun l => .agg l.toArray else none
  | .array _ e => (ty e).bind fun d' => (fillC (fun i => some (i * d'.size, d'.size)) z ps).map fun l => .agg l.toArray
  | _ => none
@[simp] theorem buildC_eq (t : TypeId) (ps : List (Nat × Value)) : buildC ty t ps = (ty t).bind fun d => bldD ty d.desc d.zero ps := nd rfl
@[simp] theorem bldD_struct (fs : Array Field) (z : List Value) (ps : List (Nat × Value)) : bldD ty (.struct fs) z ps = if fieldsKnown ty fs.toList = true then (fillC (fplace ty fs) z ps).map fun l => .agg l.toArray else none := nd rfl
def aplace (n : Nat) (i : Nat) : Option (Nat × Nat) := some (i * n, n)
@[simp] theorem aplace_eq (n i : Nat) : aplace n i = some (i * n, n) := nd rfl
@[simp] theorem bldD_array (n : Nat) (e : TypeId) (z : List Value) (ps : List (Nat × Value)) : bldD ty (.array n e) z ps = (ty e).bind fun d' => (fillC (aplace d'.size) z ps).map fun l => .agg l.toArray := nd rfl
@[simp] theorem fieldsKnown_nil : fieldsKnown ty [] = true := nd rfl
@[simp] theorem fieldsKnown_cons (f : Field) (r : List Field) : fieldsKnown ty (f :: r) = ((ty f.type).isSome && fieldsKnown ty r) := nd rfl
@[simp] theorem fplace_eq (fs : Array Field) (i : Nat) : fplace ty fs i = (fs[i]?).bind fun f => (ty f.type).map fun d => (f.offset, d.size) := nd rfl
@[simp] theorem fillC_nil (pl : Nat → Option (Nat × Nat)) (cs : List Value) : fillC pl cs [] = some cs := nd rfl
@[simp] theorem fillC_cons (pl : Nat → Option (Nat × Nat)) (cs : List Value) (i : Nat) (v : Value) (r : List (Nat × Value)) : fillC pl cs ((i, v) :: r) = (pl i).bind fun p => if v.cells.toList.length = p.2 ∧ p.1 + p.2 ≤ cs.length then fillC pl (setL cs p.1 v.cells.toList) r else none := nd rfl
def bldS (ty : TypeId → Option TD) (D : TypeDesc) (n : Nat) (l : List (Nat × Value)) (h : Heap) : Option (Value × Heap) :=
  match D with
  | .slice e => (ty e).bind fun d' => if n * d'.size ≤ 16777216 ∧ n ≤ 16777216 then (fillC (aplace d'.size) (zerosN d'.zero n) l).map fun cs => (.slice (some ⟨h.length, 0, none⟩) n n, h ++ [some (.cells cs true 0)]) else none
  | _ => none
@[simp] theorem semA_buildSlice (t : TypeId) (n : Nat) (ps : Array (Nat × Operand)) : semA ty (.buildSlice t n ps) tm h = (ty t).bind fun d => (evps true tm ps.toList).bind fun l => bldS ty d.desc n l h := by
  simp only [semA]
  cases ty t with
  | none => rfl
  | some D =>
    simp only [Option.bind_some]
    cases hD : D.desc with
    | slice e => simp only [bldS]; cases ty e <;> cases evps true tm ps.toList <;> rfl
    | _ => cases evps true tm ps.toList <;> rfl
@[simp] theorem bldS_eq (e : TypeId) (n : Nat) (l : List (Nat × Value)) : bldS ty (.slice e) n l h = (ty e).bind fun d' => if n * d'.size ≤ 16777216 ∧ n ≤ 16777216 then (fillC (aplace d'.size) (zerosN d'.zero n) l).map fun cs => (.slice (some ⟨h.length, 0, none⟩) n n, h ++ [some (.cells cs true 0)]) else none := nd rfl
@[simp] theorem zerosN_0 (z : List Value) : zerosN z 0 = [] := nd rfl
/-! a string's bytes -/
def strS (ty : TypeId → Option TD) (src t : TypeId) (D : TypeDesc) (v : Value) (h : Heap) : Option (Value × Heap) :=
  match D with
  | .slice e => (ty e).bind fun d' => match d'.desc with
    | .int .u8 => match v with
      | .string b => some (.slice (some ⟨h.length, 0, none⟩) b.size OPEN, h ++ [some (.cells (u8s b.data.toList) true 1)])
      | .slice (some ⟨i, k, none⟩) n c => if src = t ∧ n ≠ 0 then (lendC h i).map fun h' => (.slice (some ⟨i, k, none⟩) n c, h') else none
      | _ => none
    | _ => none
  | _ => none
@[simp] theorem semA_convert (s t : TypeId) (x : Operand) : semA ty (.convert s t x) tm h = (ty s).bind fun _ => (ty t).bind fun D => (ev true tm x).bind fun v => strS ty s t D.desc v h := by
  simp only [semA]
  cases ty s with
  | none => rfl
  | some _ =>
    cases ty t with
    | none => rfl
    | some D =>
      simp only [Option.bind_some]
      cases hD : D.desc with
      | slice e =>
        simp only [strS]
        cases ty e with
        | none => cases ev true tm x <;> rfl
        | some d' =>
          simp only [Option.bind_some]
          cases hd : d'.desc with
          | int k =>
            cases k <;> cases ev true tm x with
            | none => rfl
            | some v => first | (cases v <;> rfl) | rfl
          | _ => cases ev true tm x <;> rfl
      | _ => cases ev true tm x <;> rfl
@[simp] theorem strS_slice (s t e : TypeId) (i k n c : Nat) : strS ty s t (.slice e) (.slice (some ⟨i, k, none⟩) n c) h = (ty e).bind fun d' => if byteB (some d') = true then (if s = t ∧ n ≠ 0 then (lendC h i).map fun h' => (.slice (some ⟨i, k, none⟩) n c, h') else none) else none := by
  simp only [strS, byteB]
  cases ty e with
  | none => rfl
  | some d' =>
    obtain ⟨dd, a1, a2, a3, a4⟩ := d'
    cases dd with
    | int k => cases k <;> rfl
    | _ => rfl
/-- A block, lent. -/
def lendB (h : Heap) (i : Nat) : Option Blk → Option Heap
  | some (.cells cs true u) => some (h.set i (some (.cells cs false u)))
  | _ => none
@[simp] theorem lendC_eq (i : Nat) : lendC h i = lendB h i (hget h i) := by
  unfold lendC lendB
  cases hget h i with
  | none => rfl
  | some b => cases b with
    | map _ _ => rfl
    | void _ => rfl
    | cells cs o u => cases o <;> rfl
@[simp] theorem lendB_own (i : Nat) (cs : List Value) (u : Nat) : lendB h i (some (.cells cs true u)) = some (h.set i (some (.cells cs false u))) := rfl
@[simp] theorem strS_eq (s t e : TypeId) (b : ByteArray) : strS ty s t (.slice e) (.string b) h = (ty e).bind fun d' => if byteB (some d') = true then some (.slice (some ⟨h.length, 0, none⟩) b.size OPEN, h ++ [some (.cells (u8s b.data.toList) true 1)]) else none := by
  simp only [strS, byteB]
  cases ty e with
  | none => rfl
  | some d' =>
    obtain ⟨dd, a1, a2, a3, a4⟩ := d'
    cases dd with
    | int k => cases k <;> rfl
    | _ => rfl
/-! appending, copying -/
@[simp] theorem lenC_slice (a : Option Addr) (n c : Nat) : lenC (.slice a n c) = some (.int .i64 n) := nd rfl
@[simp] theorem lenC_string (s : ByteArray) : lenC (.string s) = some (.int .i64 s.size) := nd rfl
def notInt (D : TypeDesc) : Bool :=
  match D with
  | .int _ => false
  | _ => true
@[simp] theorem notInt_slice (e : TypeId) : notInt (.slice e) = true := nd rfl
@[simp] theorem notInt_string : notInt .string = true := nd rfl
def appS (ty : TypeId → Option TD) (D D2 : TypeDesc) (x y : Value) (h : Heap) : Option (Value × Heap) :=
  match D with
  | .slice e => (ty e).bind fun d' => if notInt D2 = true then (lenC y).bind fun ny => match ny with
    | .int _ n => (rowOf d'.size h y).bind fun row => if row.length = n.toNat * d'.size then appendC d' h x n.toNat row else none
    | _ => none else none
  | _ => none
theorem evs_bind2 {α : Type} (f : Value → Value → Option α) (x y : Operand) : (evs true tm [x, y]).bind (fun l => match l with
      | x :: y :: _ => f x y
      | _ => none) = (ev true tm x).bind fun a => (ev true tm y).bind fun b => f a b := by
  simp only [evs_cons, evs_nil]
  cases ev true tm x <;> cases ev true tm y <;> rfl
@[simp] theorem semA_append (x y : Operand) (t t2 : TypeId) : semA ty (.call ⟨.builtin .append, #[x, y], #[t, t2]⟩) tm h = (ty t).bind fun D => (ty t2).bind fun D2 => (ev true tm x).bind fun a => (ev true tm y).bind fun b => appS ty D.desc D2.desc a b h := by
  simp only [semA]
  simp only [List.getElem?_toArray, List.getElem?_cons_zero, List.getElem?_cons_succ, Option.bind_some]
  cases ty t with
  | none => rfl
  | some D =>
    simp only [Option.bind_some]
    cases hD : D.desc with
    | slice e =>
      simp only [evs_cons, evs_nil]
      cases ty t2 with
      | none =>
        cases ty e <;> cases ev true tm x <;> cases ev true tm y <;> rfl
      | some D2 =>
        simp only [Option.bind_some]
        cases ev true tm x with
        | none => cases ty e <;> rfl
        | some a =>
          cases ev true tm y with
          | none => cases ty e <;> rfl
          | some b =>
            simp only [Option.bind_some, Option.map_some, appS]
            cases ty e with
            | none => rfl
            | some d' =>
              simp only [Option.bind_some]
              cases hD2 : D2.desc <;> first | rfl | (simp [notInt]; done) | (simp [notInt]; rfl)
    | _ =>
      simp only [appS]
      cases ty t2 <;> cases ev true tm x <;> cases ev true tm y <;> rfl
@[simp] theorem appS_slice (e : TypeId) (D2 : TypeDesc) (x : Value) (a : Option Addr) (n c : Nat) : appS ty (.slice e) D2 x (.slice a n c) h = (ty e).bind fun d' => if notInt D2 = true then (rowOf d'.size h (.slice a n c)).bind fun row => if row.length = n * d'.size then appendC d' h x n row else none else none := by
  simp only [appS, lenC_slice, Option.bind_some, Int.toNat_natCast]
@[simp] theorem appS_string (e : TypeId) (D2 : TypeDesc) (x : Value) (s : ByteArray) : appS ty (.slice e) D2 x (.string s) h = (ty e).bind fun d' => if notInt D2 = true then (rowOf d'.size h (.string s)).bind fun row => if row.length = s.size * d'.size then appendC d' h x s.size row else none else none := by
  simp only [appS, lenC_string, Option.bind_some, Int.toNat_natCast]
theorem appendC_nil (D : TD) (n : Nat) (xs : List Value) : appendC D h (.slice none 0 0) n xs = if (n * D.bytes ≤ 35184372088832 ∧ n ≤ 35184372088832) ∧ 0 < D.size then some (.slice (some ⟨h.length, 0, none⟩) n OPEN, h ++ [some (grown xs D.size)]) else none := by
  simp only [appendC, Nat.zero_add, true_and]
  by_cases hp : 0 < D.size <;> simp [hp]
theorem appendC_zero (D : TD) (i k n : Nat) (xs : List Value) : appendC D h (.slice (some ⟨i, k, none⟩) 0 0) n xs = if (n * D.bytes ≤ 35184372088832 ∧ n ≤ 35184372088832) ∧ 0 < D.size then some (.slice (some ⟨h.length, 0, none⟩) n OPEN, h ++ [some (grown xs D.size)]) else none := by
  simp only [appendC, Nat.zero_add, true_and]
  by_cases hp : 0 < D.size <;> simp [hp]
def appO (D : TD) (h : Heap) (i k len n : Nat) (xs : List Value) (p : List Value × Nat) : Option (Value × Heap) :=
  if k + len * D.size = p.1.length ∧ p.2 = D.size ∧ xs.all one1 = true then some (.slice (some ⟨h.length, 0, none⟩) (len + n) OPEN, h.set i none ++ [some (.cells (p.1.drop k ++ xs) true D.size)]) else none
def appG (D : TD) (h : Heap) (i k len n : Nat) (xs : List Value) (b : Option Blk) : Option (Value × Heap) :=
  match b with
  | some (.cells cs true u) => appO D h i k len n xs (cs, u)
  | some (.void u) => if len = 0 ∧ k = 0 ∧ u = D.size ∧ 0 < D.size ∧ xs.all one1 = true then some (.slice (some ⟨h.length, 0, none⟩) n OPEN, h.set i none ++ [some (grown xs D.size)]) else none
  | _ => none
@[simp] theorem appG_cells (D : TD) (i k len n : Nat) (xs cs : List Value) (u : Nat) : appG D h i k len n xs (some (.cells cs true u)) = appO D h i k len n xs (cs, u) := nd rfl
@[simp] theorem appG_grown (D : TD) (i len n : Nat) (xs cs : List Value) (u : Nat) : appG D h i 0 len n xs (some (grown cs u)) = if len * D.size = cs.length ∧ u = D.size ∧ 0 < D.size ∧ xs.all one1 = true then some (.slice (some ⟨h.length, 0, none⟩) (len + n) OPEN, h.set i none ++ [some (grown (cs ++ xs) D.size)]) else none := by
  cases cs with
  | nil =>
    simp only [grown, appG, List.length_nil, List.nil_append]
    by_cases hp : 0 < D.size
    · by_cases hl : len = 0
      · subst hl; simp [hp]
      · have : ¬ len * D.size = 0 := by intro q; rcases Nat.mul_eq_zero.1 q with q | q <;> omega
        simp [hl, this]
    · simp [hp]
  | cons c r =>
    simp only [grown, appG, appO, Nat.zero_add, List.cons_append, List.drop_zero]
    by_cases hp : 0 < D.size
    · simp [hp]
    · have h0 : D.size = 0 := by omega
      simp [h0]
theorem appendC_open (D : TD) (i k len n : Nat) (xs : List Value) : appendC D h (.slice (some ⟨i, k, none⟩) len OPEN) n xs = if (len + n) * D.bytes ≤ 35184372088832 ∧ len + n ≤ 35184372088832 then appG D h i k len n xs (hget h i) else none := by
  have h0O : ¬ OPEN = 0 := by unfold OPEN; omega
  simp only [appendC, h0O, and_false, if_false]
  split
  · cases hb : hget h i with
    | none => rfl
    | some b => cases b with
      | map _ _ => rfl
      | void u => simp [appG]
      | cells cs o u =>
        simp only [if_true]
        cases o with
        | false => rfl
        | true => rfl
  · rfl
def appN (D : TD) (h : Heap) (i k len cap n : Nat) (xs cs : List Value) : Option (Value × Heap) :=
  if len + n ≤ cap then (if n = 0 then some (.slice (some ⟨i, k, none⟩) len cap, h) else none)
  else (slc cs k (len * D.size)).map fun old => (.slice (some ⟨h.length, 0, none⟩) (len + n) OPEN, h ++ [some (.cells (old ++ xs) true D.size)])
def cellsO (b : Option Blk) : Option (List Value) :=
  match b with
  | some (.cells cs _ _) => some cs
  | _ => none
@[simp] theorem cellsO_eq (cs : List Value) (o : Bool) (u : Nat) : cellsO (some (.cells cs o u)) = some cs := nd rfl
theorem appendC_cap (D : TD) (i k len cap n : Nat) (xs : List Value) (hc : cap ≠ OPEN) (hz : cap ≠ 0) : appendC D h (.slice (some ⟨i, k, none⟩) len cap) n xs = if (len + n) * D.bytes ≤ 35184372088832 ∧ len + n ≤ 35184372088832 then (cellsO (hget h i)).bind (appN D h i k len cap n xs) else none := by
  have h00 : ¬ (len = 0 ∧ cap = 0) := fun q => hz q.2
  simp only [appendC, h00, if_false]
  split
  · cases hb : hget h i with
    | none => rfl
    | some b => cases b with
      | map _ _ => rfl
      | void _ => simp [cellsO, hc]
      | cells cs o u =>
        simp only [cellsO_eq, Option.bind_some, appN]
  · rfl
/-- What is appended, one way or the other. -/
def appV (D : TD) (h : Heap) (a : Option Addr) (len cap n : Nat) (xs : List Value) : Option (Value × Heap) := appendC D h (.slice a len cap) n xs
@[simp] theorem appendC_eq (D : TD) (a : Option Addr) (len cap n : Nat) (xs : List Value) : appendC D h (.slice a len cap) n xs = appV D h a len cap n xs := nd rfl
@[simp] theorem appV_nil (D : TD) (n : Nat) (xs : List Value) : appV D h none 0 0 n xs = if (n * D.bytes ≤ 35184372088832 ∧ n ≤ 35184372088832) ∧ 0 < D.size then some (.slice (some ⟨h.length, 0, none⟩) n OPEN, h ++ [some (grown xs D.size)]) else none := appendC_nil h D n xs
@[simp] theorem appV_zero (D : TD) (i k n : Nat) (xs : List Value) : appV D h (some ⟨i, k, none⟩) 0 0 n xs = if (n * D.bytes ≤ 35184372088832 ∧ n ≤ 35184372088832) ∧ 0 < D.size then some (.slice (some ⟨h.length, 0, none⟩) n OPEN, h ++ [some (grown xs D.size)]) else none := appendC_zero h D i k n xs
@[simp] theorem appV_open (D : TD) (i k len n : Nat) (xs : List Value) : appV D h (some ⟨i, k, none⟩) len OPEN n xs = if (len + n) * D.bytes ≤ 35184372088832 ∧ len + n ≤ 35184372088832 then appG D h i k len n xs (hget h i) else none := appendC_open h D i k len n xs
theorem appV_cap (D : TD) (i k len cap n : Nat) (xs : List Value) (hc : cap ≠ OPEN) (hz : cap ≠ 0) : appV D h (some ⟨i, k, none⟩) len cap n xs = if (len + n) * D.bytes ≤ 35184372088832 ∧ len + n ≤ 35184372088832 then (cellsO (hget h i)).bind (appN D h i k len cap n xs) else none := appendC_cap h D i k len cap n xs hc hz
@[simp] theorem appO_eq (D : TD) (i k len n : Nat) (xs cs : List Value) (u : Nat) : appO D h i k len n xs (cs, u) = if k + len * D.size = cs.length ∧ u = D.size ∧ xs.all one1 = true then some (.slice (some ⟨h.length, 0, none⟩) (len + n) OPEN, h.set i none ++ [some (.cells (cs.drop k ++ xs) true D.size)]) else none := nd rfl
@[simp] theorem appN_eq (D : TD) (i k len cap n : Nat) (xs cs : List Value) : appN D h i k len cap n xs cs = if len + n ≤ cap then (if n = 0 then some (.slice (some ⟨i, k, none⟩) len cap, h) else none)
  else (slc cs k (len * D.size)).map fun old => (.slice (some ⟨h.length, 0, none⟩) (len + n) OPEN, h ++ [some (.cells (old ++ xs) true D.size)]) := nd rfl
def cpyS (ty : TypeId → Option TD) (D : TypeDesc) (x y : Value) (h : Heap) : Option (Value × Heap) :=
  match D with
  | .slice e => (ty e).bind fun d' => copyC d' h x y
  | _ => none
@[simp] theorem semA_copy (x y : Operand) (t t2 : TypeId) : semA ty (.call ⟨.builtin .copy, #[x, y], #[t, t2]⟩) tm h = (ty t).bind fun D => (ev true tm x).bind fun a => (ev true tm y).bind fun b => cpyS ty D.desc a b h := by
  simp only [semA]
  simp only [List.getElem?_toArray, List.getElem?_cons_zero, Option.bind_some]
  cases ty t with
  | none => rfl
  | some D =>
    simp only [Option.bind_some]
    cases hD : D.desc with
    | slice e =>
      simp only [evs_cons, evs_nil, cpyS]
      cases ev true tm x <;> cases ev true tm y <;> cases ty e <;> rfl
    | _ => cases ev true tm x <;> cases ev true tm y <;> rfl
@[simp] theorem cpyS_eq (e : TypeId) (x y : Value) : cpyS ty (.slice e) x y h = (ty e).bind fun d' => copyC d' h x y := nd rfl
def cpyP (D : TD) (h : Heap) (i k len n : Nat) (row : List Value) (p : List Value × Nat) : Option (Value × Heap) :=
  if k + (min n len) * D.size ≤ p.1.length ∧ (row.take ((min n len) * D.size)).all one1 = true ∧ row.length = n * D.size then some (.int .i64 (min n len : Nat), h.set i (some (.cells (setL p.1 k (row.take ((min n len) * D.size))) true p.2))) else none
def cpyR (D : TD) (h : Heap) (a : Option Addr) (len n : Nat) (row : List Value) : Option (Value × Heap) :=
  match a with
  | none => if len = 0 then some (.int .i64 0, h) else none
  | some ⟨i, k, none⟩ => (ownB (hget h i)).bind (cpyP D h i k len n row)
  | _ => none
theorem copyC_row (D : TD) (a : Option Addr) (len cap n : Nat) (y : Value) (hn : lenC y = some (.int .i64 n)) : copyC D h (.slice a len cap) y = (rowOf D.size h y).bind (cpyR D h a len n) := by
  simp only [copyC, hn, Option.bind_some, Int.toNat_natCast]
  congr 1
  funext row
  cases a with
  | none => rfl
  | some a =>
    obtain ⟨i, k, sp⟩ := a
    cases sp with
    | some _ => rfl
    | none =>
      simp only [cpyR]
      cases hget h i with
      | none => rfl
      | some b => cases b with
        | map _ _ => rfl
        | void _ => rfl
        | cells cs o u => cases o <;> rfl
@[simp] theorem copyC_slice (D : TD) (a : Option Addr) (len cap : Nat) (b : Option Addr) (n c : Nat) : copyC D h (.slice a len cap) (.slice b n c) = (rowOf D.size h (.slice b n c)).bind (cpyR D h a len n) := copyC_row h D a len cap n _ rfl
@[simp] theorem copyC_string (D : TD) (a : Option Addr) (len cap : Nat) (s : ByteArray) : copyC D h (.slice a len cap) (.string s) = (rowOf D.size h (.string s)).bind (cpyR D h a len s.size) := copyC_row h D a len cap _ _ rfl
@[simp] theorem cpyR_none (D : TD) (len n : Nat) (row : List Value) : cpyR D h none len n row = if len = 0 then some (.int .i64 0, h) else none := nd rfl
@[simp] theorem cpyR_some (D : TD) (i k len n : Nat) (row : List Value) : cpyR D h (some ⟨i, k, none⟩) len n row = (ownB (hget h i)).bind (cpyP D h i k len n row) := nd rfl
@[simp] theorem cpyP_eq (D : TD) (i k len n : Nat) (row cs : List Value) (u : Nat) : cpyP D h i k len n row (cs, u) = if k + (min n len) * D.size ≤ cs.length ∧ (row.take ((min n len) * D.size)).all one1 = true ∧ row.length = n * D.size then some (.int .i64 (min n len : Nat), h.set i (some (.cells (setL cs k (row.take ((min n len) * D.size))) true u))) else none := nd rfl
end
attribute [simp] u8s_one1
end Go.Sx
