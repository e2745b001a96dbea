/-
  No cell of these rows narrows 'for every input' (looked for: loops, veiled, ifaces, maps, wideKeys, modest, calm, conditions, laid).
  DERIVED. THE GIVEN ROWS OF THIS SEAT. 7 by the template 'for every input the law returns true; each argument reads behind the call as it read before'; 0 by the template 'total and deterministic' (their statements: YtnbmjpcnjjpcpaaTotals.lean).
  GIVEN WITH THE SEED: the statements are not yours to turn. If you find one false, say at which input.
  Laid BY PROGRAM, IN A SANDBOX (cutbox-rows.mjs): the forced cells as the released guide's own fill.sh prints them over the translation b0c6e563ef11b749… (all of the seat's roots in one cut). By AI agents, Wed Nov 11 2026. No macro, syntax, notation, axiom, sorry.
-/
import Derived.Test.YtnbmjpcnjjpcpaaChecked
import GoSem.Claim
import GoSem.ClaimJoined
import GoSem.ClaimMapViews
import Derived.JoinedTies
import Derived.KernelRfl
namespace Go.Proofs.Ytnbmjpcnjjpcpaa
/- THE CELL 'sum', in the pinned program and in every row, IS THE sha256 OF THE DUMP (.gsa) THAT YtnbmjpcnjjpcpaaProg.lean LOADS. Nothing in Lean hashes anything: it is a label: what it is worth is what the hold of that sum in a sandbox is worth. -/
noncomputable def Try.pinned : Pinned := { name := "ytnbmjpcnjjpcpaa", sum := "b0c6e563ef11b749fffde872f32fe3c4fdcbc2548b182d1cc02642a3375428b6", checked := Try.checked }
namespace Rows
def none {H : Type} : Left H := { results := [], args := [] }

/-- 'sidesticklaw10.WindowOnce': WHATEVER THE INPUT: true; the input reads as it did. -/
def windowOnceSpec : ChangeSpec := { name := "windowOnce", fn := fun _ => fun
  | [d1, d2] => { results := [.lit (.bool true)], args := [d1, d2] }
  | _ => none }
def windowOnceRow : OpenClaim := { program := "ytnbmjpcnjjpcpaa", sum := "b0c6e563ef11b749fffde872f32fe3c4fdcbc2548b182d1cc02642a3375428b6", func := "sidestick/sidesticklaw10.WindowOnce", spec := "windowOnce", apart := false }
def WindowOnceSaid : Prop := windowOnceRow.holds Try.pinned (OpenSpec.ofChange windowOnceSpec)

/-- ITS FALSE NEIGHBOUR: 'it returns false'. Refute it at one input. -/
def windowOnceWrong : ChangeSpec := { name := "windowOnce", fn := fun _ => fun
  | [d1, d2] => { results := [.lit (.bool false)], args := [d1, d2] }
  | _ => none }
def WindowOnceWrongFalsely : Prop := windowOnceRow.holds Try.pinned (OpenSpec.ofChange windowOnceWrong)

/-- 'sidesticklaw10.WindowMoved': WHATEVER THE INPUT: true; the input reads as it did. -/
def windowMovedSpec : ChangeSpec := { name := "windowMoved", fn := fun _ => fun
  | [d1, d2] => { results := [.lit (.bool true)], args := [d1, d2] }
  | _ => none }
def windowMovedRow : OpenClaim := { program := "ytnbmjpcnjjpcpaa", sum := "b0c6e563ef11b749fffde872f32fe3c4fdcbc2548b182d1cc02642a3375428b6", func := "sidestick/sidesticklaw10.WindowMoved", spec := "windowMoved", apart := false }
def WindowMovedSaid : Prop := windowMovedRow.holds Try.pinned (OpenSpec.ofChange windowMovedSpec)

/-- ITS FALSE NEIGHBOUR: 'it returns false'. Refute it at one input. -/
def windowMovedWrong : ChangeSpec := { name := "windowMoved", fn := fun _ => fun
  | [d1, d2] => { results := [.lit (.bool false)], args := [d1, d2] }
  | _ => none }
def WindowMovedWrongFalsely : Prop := windowMovedRow.holds Try.pinned (OpenSpec.ofChange windowMovedWrong)

/-- 'sidesticklaw02.PackOrders': WHATEVER THE INPUT: true; the input reads as it did. -/
def packOrdersSpec : ChangeSpec := { name := "packOrders", fn := fun _ => fun
  | [d1, d2] => { results := [.lit (.bool true)], args := [d1, d2] }
  | _ => none }
def packOrdersRow : OpenClaim := { program := "ytnbmjpcnjjpcpaa", sum := "b0c6e563ef11b749fffde872f32fe3c4fdcbc2548b182d1cc02642a3375428b6", func := "sidestick/sidesticklaw02.PackOrders", spec := "packOrders", apart := false }
def PackOrdersSaid : Prop := packOrdersRow.holds Try.pinned (OpenSpec.ofChange packOrdersSpec)

/-- ITS FALSE NEIGHBOUR: 'it returns false'. Refute it at one input. -/
def packOrdersWrong : ChangeSpec := { name := "packOrders", fn := fun _ => fun
  | [d1, d2] => { results := [.lit (.bool false)], args := [d1, d2] }
  | _ => none }
def PackOrdersWrongFalsely : Prop := packOrdersRow.holds Try.pinned (OpenSpec.ofChange packOrdersWrong)

/-- 'sidesticklaw02.PackSigns': WHATEVER THE INPUT: true; the input reads as it did. -/
def packSignsSpec : ChangeSpec := { name := "packSigns", fn := fun _ => fun
  | [d] => { results := [.lit (.bool true)], args := [d] }
  | _ => none }
def packSignsRow : OpenClaim := { program := "ytnbmjpcnjjpcpaa", sum := "b0c6e563ef11b749fffde872f32fe3c4fdcbc2548b182d1cc02642a3375428b6", func := "sidestick/sidesticklaw02.PackSigns", spec := "packSigns", apart := false }
def PackSignsSaid : Prop := packSignsRow.holds Try.pinned (OpenSpec.ofChange packSignsSpec)

/-- ITS FALSE NEIGHBOUR: 'it returns false'. Refute it at one input. -/
def packSignsWrong : ChangeSpec := { name := "packSigns", fn := fun _ => fun
  | [d] => { results := [.lit (.bool false)], args := [d] }
  | _ => none }
def PackSignsWrongFalsely : Prop := packSignsRow.holds Try.pinned (OpenSpec.ofChange packSignsWrong)

/-- 'sidesticklaw02.PackBack': WHATEVER THE INPUT: true; the input reads as it did. -/
def packBackSpec : ChangeSpec := { name := "packBack", fn := fun _ => fun
  | [d1, d2] => { results := [.lit (.bool true)], args := [d1, d2] }
  | _ => none }
def packBackRow : OpenClaim := { program := "ytnbmjpcnjjpcpaa", sum := "b0c6e563ef11b749fffde872f32fe3c4fdcbc2548b182d1cc02642a3375428b6", func := "sidestick/sidesticklaw02.PackBack", spec := "packBack", apart := false }
def PackBackSaid : Prop := packBackRow.holds Try.pinned (OpenSpec.ofChange packBackSpec)

/-- ITS FALSE NEIGHBOUR: 'it returns false'. Refute it at one input. -/
def packBackWrong : ChangeSpec := { name := "packBack", fn := fun _ => fun
  | [d1, d2] => { results := [.lit (.bool false)], args := [d1, d2] }
  | _ => none }
def PackBackWrongFalsely : Prop := packBackRow.holds Try.pinned (OpenSpec.ofChange packBackWrong)

/-- 'sidesticklaw02.PackParts': WHATEVER THE INPUT: true; the input reads as it did. -/
def packPartsSpec : ChangeSpec := { name := "packParts", fn := fun _ => fun
  | [d1, d2, d3] => { results := [.lit (.bool true)], args := [d1, d2, d3] }
  | _ => none }
def packPartsRow : OpenClaim := { program := "ytnbmjpcnjjpcpaa", sum := "b0c6e563ef11b749fffde872f32fe3c4fdcbc2548b182d1cc02642a3375428b6", func := "sidestick/sidesticklaw02.PackParts", spec := "packParts", apart := false }
def PackPartsSaid : Prop := packPartsRow.holds Try.pinned (OpenSpec.ofChange packPartsSpec)

/-- ITS FALSE NEIGHBOUR: 'it returns false'. Refute it at one input. -/
def packPartsWrong : ChangeSpec := { name := "packParts", fn := fun _ => fun
  | [d1, d2, d3] => { results := [.lit (.bool false)], args := [d1, d2, d3] }
  | _ => none }
def PackPartsWrongFalsely : Prop := packPartsRow.holds Try.pinned (OpenSpec.ofChange packPartsWrong)

/-- 'sidesticklaw02.PackInts': WHATEVER THE INPUT: true; the input reads as it did. -/
def packIntsSpec : ChangeSpec := { name := "packInts", fn := fun _ => fun
  | [d1, d2] => { results := [.lit (.bool true)], args := [d1, d2] }
  | _ => none }
def packIntsRow : OpenClaim := { program := "ytnbmjpcnjjpcpaa", sum := "b0c6e563ef11b749fffde872f32fe3c4fdcbc2548b182d1cc02642a3375428b6", func := "sidestick/sidesticklaw02.PackInts", spec := "packInts", apart := false }
def PackIntsSaid : Prop := packIntsRow.holds Try.pinned (OpenSpec.ofChange packIntsSpec)

/-- ITS FALSE NEIGHBOUR: 'it returns false'. Refute it at one input. -/
def packIntsWrong : ChangeSpec := { name := "packInts", fn := fun _ => fun
  | [d1, d2] => { results := [.lit (.bool false)], args := [d1, d2] }
  | _ => none }
def PackIntsWrongFalsely : Prop := packIntsRow.holds Try.pinned (OpenSpec.ofChange packIntsWrong)

/- THE SECOND FORM. 'bulk': how many values and letters a reading holds, each counted each time it is reached (what is shared counts as often as it is met; a slice's spare places count too). A statement '..UptoSaid' is the law's where the arguments, and the package variables that the reading takes, are together of bulk at most 1048576: NARROWER than '..Said'. Prove '..Said' where nothing that the law and all that it calls make is longer than what came in: it says more and counts as full. Else prove '..UptoSaid'. A law counts once. -/
mutual
def uptoBulk {H : Type} : DataW H → Nat
  | .lit (.string bytes) => bytes.length + 1
  | .lit _ => 1
  | .nil => 1
  | .ptr d => uptoBulk d + 1
  | .slice elems spare => uptoBulkAll elems + uptoBulkAll spare + 1
  | .agg parts => uptoBulkAll parts + 1
  | .iface _ d => uptoBulk d + 1
  | .map entries => uptoBulkEntries entries + 1
  | .held _ => 1
def uptoBulkAll {H : Type} : List (DataW H) → Nat
  | [] => 0
  | d :: r => uptoBulk d + uptoBulkAll r
def uptoBulkEntries {H : Type} : List (Lit × DataW H) → Nat
  | [] => 0
  | x :: r => uptoBulkEntry x + uptoBulkEntries r
def uptoBulkEntry {H : Type} : Lit × DataW H → Nat
  | (.string bytes, d) => bytes.length + uptoBulk d + 1
  | (_, d) => uptoBulk d + 1
 end
def uptoSmall : (H : Type) → List (DataW H) → Bool := fun _ ds => decide (uptoBulkAll ds ≤ 1048576)
def OpenSpec.upto (s : _root_.Go.ChangeSpec) : _root_.Go.OpenSpec := { _root_.Go.OpenSpec.ofChange s with cond := some uptoSmall }

/-- 'sidesticklaw10.WindowOnce', WHERE WHAT IT READS IS OF BULK AT MOST 1048576: true; the input reads as it did. -/
def windowOnceUptoRow : OpenClaim := { program := "ytnbmjpcnjjpcpaa", sum := "b0c6e563ef11b749fffde872f32fe3c4fdcbc2548b182d1cc02642a3375428b6", func := "sidestick/sidesticklaw10.WindowOnce", spec := "windowOnce", apart := false, narrowed := true }
def WindowOnceUptoSaid : Prop := windowOnceUptoRow.holds Try.pinned (OpenSpec.upto windowOnceSpec)

/-- 'sidesticklaw10.WindowMoved', WHERE WHAT IT READS IS OF BULK AT MOST 1048576: true; the input reads as it did. -/
def windowMovedUptoRow : OpenClaim := { program := "ytnbmjpcnjjpcpaa", sum := "b0c6e563ef11b749fffde872f32fe3c4fdcbc2548b182d1cc02642a3375428b6", func := "sidestick/sidesticklaw10.WindowMoved", spec := "windowMoved", apart := false, narrowed := true }
def WindowMovedUptoSaid : Prop := windowMovedUptoRow.holds Try.pinned (OpenSpec.upto windowMovedSpec)

/-- 'sidesticklaw02.PackOrders', WHERE WHAT IT READS IS OF BULK AT MOST 1048576: true; the input reads as it did. -/
def packOrdersUptoRow : OpenClaim := { program := "ytnbmjpcnjjpcpaa", sum := "b0c6e563ef11b749fffde872f32fe3c4fdcbc2548b182d1cc02642a3375428b6", func := "sidestick/sidesticklaw02.PackOrders", spec := "packOrders", apart := false, narrowed := true }
def PackOrdersUptoSaid : Prop := packOrdersUptoRow.holds Try.pinned (OpenSpec.upto packOrdersSpec)

/-- 'sidesticklaw02.PackSigns', WHERE WHAT IT READS IS OF BULK AT MOST 1048576: true; the input reads as it did. -/
def packSignsUptoRow : OpenClaim := { program := "ytnbmjpcnjjpcpaa", sum := "b0c6e563ef11b749fffde872f32fe3c4fdcbc2548b182d1cc02642a3375428b6", func := "sidestick/sidesticklaw02.PackSigns", spec := "packSigns", apart := false, narrowed := true }
def PackSignsUptoSaid : Prop := packSignsUptoRow.holds Try.pinned (OpenSpec.upto packSignsSpec)

/-- 'sidesticklaw02.PackBack', WHERE WHAT IT READS IS OF BULK AT MOST 1048576: true; the input reads as it did. -/
def packBackUptoRow : OpenClaim := { program := "ytnbmjpcnjjpcpaa", sum := "b0c6e563ef11b749fffde872f32fe3c4fdcbc2548b182d1cc02642a3375428b6", func := "sidestick/sidesticklaw02.PackBack", spec := "packBack", apart := false, narrowed := true }
def PackBackUptoSaid : Prop := packBackUptoRow.holds Try.pinned (OpenSpec.upto packBackSpec)

/-- 'sidesticklaw02.PackParts', WHERE WHAT IT READS IS OF BULK AT MOST 1048576: true; the input reads as it did. -/
def packPartsUptoRow : OpenClaim := { program := "ytnbmjpcnjjpcpaa", sum := "b0c6e563ef11b749fffde872f32fe3c4fdcbc2548b182d1cc02642a3375428b6", func := "sidestick/sidesticklaw02.PackParts", spec := "packParts", apart := false, narrowed := true }
def PackPartsUptoSaid : Prop := packPartsUptoRow.holds Try.pinned (OpenSpec.upto packPartsSpec)

/-- 'sidesticklaw02.PackInts', WHERE WHAT IT READS IS OF BULK AT MOST 1048576: true; the input reads as it did. -/
def packIntsUptoRow : OpenClaim := { program := "ytnbmjpcnjjpcpaa", sum := "b0c6e563ef11b749fffde872f32fe3c4fdcbc2548b182d1cc02642a3375428b6", func := "sidestick/sidesticklaw02.PackInts", spec := "packInts", apart := false, narrowed := true }
def PackIntsUptoSaid : Prop := packIntsUptoRow.holds Try.pinned (OpenSpec.upto packIntsSpec)

end Rows
end Go.Proofs.Ytnbmjpcnjjpcpaa
