/-
  No cell of these rows narrows 'for every input' (looked for: loops, veiled, ifaces, maps, wideKeys, modest, calm, conditions, laid).
  DERIVED. THE GIVEN ROWS OF THIS SEAT. 10 by the template 'for every input the law returns true; each argument reads behind the call as it read before'; 0 by the template 'total and deterministic' (their statements: YtfefdjomenfchaaTotals.lean).
  GIVEN WITH THE SEED: the statements are not yours to turn. If you find one false, say at which input.
  Laid BY PROGRAM, IN A SANDBOX (cutbox-rows.mjs): the forced cells as the released guide's own fill.sh prints them over the translation 9722506abdaebfb0… (all of the seat's roots in one cut). By AI agents, Wed Nov 11 2026. No macro, syntax, notation, axiom, sorry.
-/
import Derived.Test.YtfefdjomenfchaaChecked
import GoSem.Claim
import GoSem.ClaimJoined
import GoSem.ClaimMapViews
import Derived.JoinedTies
import Derived.KernelRfl
namespace Go.Proofs.Ytfefdjomenfchaa
/- THE CELL 'sum', in the pinned program and in every row, IS THE sha256 OF THE DUMP (.gsa) THAT YtfefdjomenfchaaProg.lean LOADS. Nothing in Lean hashes anything: it is a label: what it is worth is what the hold of that sum in a sandbox is worth. -/
noncomputable def Try.pinned : Pinned := { name := "ytfefdjomenfchaa", sum := "9722506abdaebfb013f68958851b152c7a443b571259bf918c5832f5b00da778", checked := Try.checked }
namespace Rows
def none {H : Type} : Left H := { results := [], args := [] }

/-- 'sidesticklaw04.ShaAll': WHATEVER THE INPUT: true; the input reads as it did. -/
def shaAllSpec : ChangeSpec := { name := "shaAll", fn := fun _ => fun
  | [d1, d2, d3] => { results := [.lit (.bool true)], args := [d1, d2, d3] }
  | _ => none }
def shaAllRow : OpenClaim := { program := "ytfefdjomenfchaa", sum := "9722506abdaebfb013f68958851b152c7a443b571259bf918c5832f5b00da778", func := "sidestick/sidesticklaw04.ShaAll", spec := "shaAll", apart := false }
def ShaAllSaid : Prop := shaAllRow.holds Try.pinned (OpenSpec.ofChange shaAllSpec)

/-- ITS FALSE NEIGHBOUR: 'it returns false'. Refute it at one input. -/
def shaAllWrong : ChangeSpec := { name := "shaAll", fn := fun _ => fun
  | [d1, d2, d3] => { results := [.lit (.bool false)], args := [d1, d2, d3] }
  | _ => none }
def ShaAllWrongFalsely : Prop := shaAllRow.holds Try.pinned (OpenSpec.ofChange shaAllWrong)

/-- 'sidesticklaw04.ShaPads': WHATEVER THE INPUT: true; the input reads as it did. -/
def shaPadsSpec : ChangeSpec := { name := "shaPads", fn := fun _ => fun
  | [d1, d2] => { results := [.lit (.bool true)], args := [d1, d2] }
  | _ => none }
def shaPadsRow : OpenClaim := { program := "ytfefdjomenfchaa", sum := "9722506abdaebfb013f68958851b152c7a443b571259bf918c5832f5b00da778", func := "sidestick/sidesticklaw04.ShaPads", spec := "shaPads", apart := false }
def ShaPadsSaid : Prop := shaPadsRow.holds Try.pinned (OpenSpec.ofChange shaPadsSpec)

/-- ITS FALSE NEIGHBOUR: 'it returns false'. Refute it at one input. -/
def shaPadsWrong : ChangeSpec := { name := "shaPads", fn := fun _ => fun
  | [d1, d2] => { results := [.lit (.bool false)], args := [d1, d2] }
  | _ => none }
def ShaPadsWrongFalsely : Prop := shaPadsRow.holds Try.pinned (OpenSpec.ofChange shaPadsWrong)

/-- 'sidesticklaw04.ShaBlocks': WHATEVER THE INPUT: true; the input reads as it did. -/
def shaBlocksSpec : ChangeSpec := { name := "shaBlocks", fn := fun _ => fun
  | [d] => { results := [.lit (.bool true)], args := [d] }
  | _ => none }
def shaBlocksRow : OpenClaim := { program := "ytfefdjomenfchaa", sum := "9722506abdaebfb013f68958851b152c7a443b571259bf918c5832f5b00da778", func := "sidestick/sidesticklaw04.ShaBlocks", spec := "shaBlocks", apart := false }
def ShaBlocksSaid : Prop := shaBlocksRow.holds Try.pinned (OpenSpec.ofChange shaBlocksSpec)

/-- ITS FALSE NEIGHBOUR: 'it returns false'. Refute it at one input. -/
def shaBlocksWrong : ChangeSpec := { name := "shaBlocks", fn := fun _ => fun
  | [d] => { results := [.lit (.bool false)], args := [d] }
  | _ => none }
def ShaBlocksWrongFalsely : Prop := shaBlocksRow.holds Try.pinned (OpenSpec.ofChange shaBlocksWrong)

/-- 'sidesticklaw23.ChainParts': WHATEVER THE INPUT: true; the input reads as it did. -/
def chainPartsSpec : ChangeSpec := { name := "chainParts", fn := fun _ => fun
  | [d1, d2] => { results := [.lit (.bool true)], args := [d1, d2] }
  | _ => none }
def chainPartsRow : OpenClaim := { program := "ytfefdjomenfchaa", sum := "9722506abdaebfb013f68958851b152c7a443b571259bf918c5832f5b00da778", func := "sidestick/sidesticklaw23.ChainParts", spec := "chainParts", apart := false }
def ChainPartsSaid : Prop := chainPartsRow.holds Try.pinned (OpenSpec.ofChange chainPartsSpec)

/-- ITS FALSE NEIGHBOUR: 'it returns false'. Refute it at one input. -/
def chainPartsWrong : ChangeSpec := { name := "chainParts", fn := fun _ => fun
  | [d1, d2] => { results := [.lit (.bool false)], args := [d1, d2] }
  | _ => none }
def ChainPartsWrongFalsely : Prop := chainPartsRow.holds Try.pinned (OpenSpec.ofChange chainPartsWrong)

/-- 'sidesticklaw23.ChainBytes': WHATEVER THE INPUT: true; the input reads as it did. -/
def chainBytesSpec : ChangeSpec := { name := "chainBytes", fn := fun _ => fun
  | [d1, d2, d3] => { results := [.lit (.bool true)], args := [d1, d2, d3] }
  | _ => none }
def chainBytesRow : OpenClaim := { program := "ytfefdjomenfchaa", sum := "9722506abdaebfb013f68958851b152c7a443b571259bf918c5832f5b00da778", func := "sidestick/sidesticklaw23.ChainBytes", spec := "chainBytes", apart := false }
def ChainBytesSaid : Prop := chainBytesRow.holds Try.pinned (OpenSpec.ofChange chainBytesSpec)

/-- ITS FALSE NEIGHBOUR: 'it returns false'. Refute it at one input. -/
def chainBytesWrong : ChangeSpec := { name := "chainBytes", fn := fun _ => fun
  | [d1, d2, d3] => { results := [.lit (.bool false)], args := [d1, d2, d3] }
  | _ => none }
def ChainBytesWrongFalsely : Prop := chainBytesRow.holds Try.pinned (OpenSpec.ofChange chainBytesWrong)

/-- 'sidesticklaw23.ChainSums': WHATEVER THE INPUT: true; the input reads as it did. -/
def chainSumsSpec : ChangeSpec := { name := "chainSums", fn := fun _ => fun
  | [d1, d2, d3] => { results := [.lit (.bool true)], args := [d1, d2, d3] }
  | _ => none }
def chainSumsRow : OpenClaim := { program := "ytfefdjomenfchaa", sum := "9722506abdaebfb013f68958851b152c7a443b571259bf918c5832f5b00da778", func := "sidestick/sidesticklaw23.ChainSums", spec := "chainSums", apart := false }
def ChainSumsSaid : Prop := chainSumsRow.holds Try.pinned (OpenSpec.ofChange chainSumsSpec)

/-- ITS FALSE NEIGHBOUR: 'it returns false'. Refute it at one input. -/
def chainSumsWrong : ChangeSpec := { name := "chainSums", fn := fun _ => fun
  | [d1, d2, d3] => { results := [.lit (.bool false)], args := [d1, d2, d3] }
  | _ => none }
def ChainSumsWrongFalsely : Prop := chainSumsRow.holds Try.pinned (OpenSpec.ofChange chainSumsWrong)

/-- 'sidesticklaw05.MacMade': WHATEVER THE INPUT: true; the input reads as it did. -/
def macMadeSpec : ChangeSpec := { name := "macMade", fn := fun _ => fun
  | [d1, d2] => { results := [.lit (.bool true)], args := [d1, d2] }
  | _ => none }
def macMadeRow : OpenClaim := { program := "ytfefdjomenfchaa", sum := "9722506abdaebfb013f68958851b152c7a443b571259bf918c5832f5b00da778", func := "sidestick/sidesticklaw05.MacMade", spec := "macMade", apart := false }
def MacMadeSaid : Prop := macMadeRow.holds Try.pinned (OpenSpec.ofChange macMadeSpec)

/-- ITS FALSE NEIGHBOUR: 'it returns false'. Refute it at one input. -/
def macMadeWrong : ChangeSpec := { name := "macMade", fn := fun _ => fun
  | [d1, d2] => { results := [.lit (.bool false)], args := [d1, d2] }
  | _ => none }
def MacMadeWrongFalsely : Prop := macMadeRow.holds Try.pinned (OpenSpec.ofChange macMadeWrong)

/-- 'sidesticklaw05.MacAll': WHATEVER THE INPUT: true; the input reads as it did. -/
def macAllSpec : ChangeSpec := { name := "macAll", fn := fun _ => fun
  | [d1, d2] => { results := [.lit (.bool true)], args := [d1, d2] }
  | _ => none }
def macAllRow : OpenClaim := { program := "ytfefdjomenfchaa", sum := "9722506abdaebfb013f68958851b152c7a443b571259bf918c5832f5b00da778", func := "sidestick/sidesticklaw05.MacAll", spec := "macAll", apart := false }
def MacAllSaid : Prop := macAllRow.holds Try.pinned (OpenSpec.ofChange macAllSpec)

/-- ITS FALSE NEIGHBOUR: 'it returns false'. Refute it at one input. -/
def macAllWrong : ChangeSpec := { name := "macAll", fn := fun _ => fun
  | [d1, d2] => { results := [.lit (.bool false)], args := [d1, d2] }
  | _ => none }
def MacAllWrongFalsely : Prop := macAllRow.holds Try.pinned (OpenSpec.ofChange macAllWrong)

/-- 'sidesticklaw05.MacKeys': WHATEVER THE INPUT: true; the input reads as it did. -/
def macKeysSpec : ChangeSpec := { name := "macKeys", fn := fun _ => fun
  | [d1, d2, d3] => { results := [.lit (.bool true)], args := [d1, d2, d3] }
  | _ => none }
def macKeysRow : OpenClaim := { program := "ytfefdjomenfchaa", sum := "9722506abdaebfb013f68958851b152c7a443b571259bf918c5832f5b00da778", func := "sidestick/sidesticklaw05.MacKeys", spec := "macKeys", apart := false }
def MacKeysSaid : Prop := macKeysRow.holds Try.pinned (OpenSpec.ofChange macKeysSpec)

/-- ITS FALSE NEIGHBOUR: 'it returns false'. Refute it at one input. -/
def macKeysWrong : ChangeSpec := { name := "macKeys", fn := fun _ => fun
  | [d1, d2, d3] => { results := [.lit (.bool false)], args := [d1, d2, d3] }
  | _ => none }
def MacKeysWrongFalsely : Prop := macKeysRow.holds Try.pinned (OpenSpec.ofChange macKeysWrong)

/-- 'sidesticklaw05.MacTags': WHATEVER THE INPUT: true; the input reads as it did. -/
def macTagsSpec : ChangeSpec := { name := "macTags", fn := fun _ => fun
  | [d1, d2, d3] => { results := [.lit (.bool true)], args := [d1, d2, d3] }
  | _ => none }
def macTagsRow : OpenClaim := { program := "ytfefdjomenfchaa", sum := "9722506abdaebfb013f68958851b152c7a443b571259bf918c5832f5b00da778", func := "sidestick/sidesticklaw05.MacTags", spec := "macTags", apart := false }
def MacTagsSaid : Prop := macTagsRow.holds Try.pinned (OpenSpec.ofChange macTagsSpec)

/-- ITS FALSE NEIGHBOUR: 'it returns false'. Refute it at one input. -/
def macTagsWrong : ChangeSpec := { name := "macTags", fn := fun _ => fun
  | [d1, d2, d3] => { results := [.lit (.bool false)], args := [d1, d2, d3] }
  | _ => none }
def MacTagsWrongFalsely : Prop := macTagsRow.holds Try.pinned (OpenSpec.ofChange macTagsWrong)

/- THE SECOND FORM. 'bulk': how many values and letters a reading holds, each counted each time it is reached (what is shared counts as often as it is met; a slice's spare places count too). A statement '..UptoSaid' is the law's where the arguments, and the package variables that the reading takes, are together of bulk at most 1048576: NARROWER than '..Said'. Prove '..Said' where nothing that the law and all that it calls make is longer than what came in: it says more and counts as full. Else prove '..UptoSaid'. A law counts once. -/
mutual
def uptoBulk {H : Type} : DataW H → Nat
  | .lit (.string bytes) => bytes.length + 1
  | .lit _ => 1
  | .nil => 1
  | .ptr d => uptoBulk d + 1
  | .slice elems spare => uptoBulkAll elems + uptoBulkAll spare + 1
  | .agg parts => uptoBulkAll parts + 1
  | .iface _ d => uptoBulk d + 1
  | .map entries => uptoBulkEntries entries + 1
  | .held _ => 1
def uptoBulkAll {H : Type} : List (DataW H) → Nat
  | [] => 0
  | d :: r => uptoBulk d + uptoBulkAll r
def uptoBulkEntries {H : Type} : List (Lit × DataW H) → Nat
  | [] => 0
  | x :: r => uptoBulkEntry x + uptoBulkEntries r
def uptoBulkEntry {H : Type} : Lit × DataW H → Nat
  | (.string bytes, d) => bytes.length + uptoBulk d + 1
  | (_, d) => uptoBulk d + 1
 end
def uptoSmall : (H : Type) → List (DataW H) → Bool := fun _ ds => decide (uptoBulkAll ds ≤ 1048576)
def OpenSpec.upto (s : _root_.Go.ChangeSpec) : _root_.Go.OpenSpec := { _root_.Go.OpenSpec.ofChange s with cond := some uptoSmall }

/-- 'sidesticklaw04.ShaAll', WHERE WHAT IT READS IS OF BULK AT MOST 1048576: true; the input reads as it did. -/
def shaAllUptoRow : OpenClaim := { program := "ytfefdjomenfchaa", sum := "9722506abdaebfb013f68958851b152c7a443b571259bf918c5832f5b00da778", func := "sidestick/sidesticklaw04.ShaAll", spec := "shaAll", apart := false, narrowed := true }
def ShaAllUptoSaid : Prop := shaAllUptoRow.holds Try.pinned (OpenSpec.upto shaAllSpec)

/-- 'sidesticklaw04.ShaPads', WHERE WHAT IT READS IS OF BULK AT MOST 1048576: true; the input reads as it did. -/
def shaPadsUptoRow : OpenClaim := { program := "ytfefdjomenfchaa", sum := "9722506abdaebfb013f68958851b152c7a443b571259bf918c5832f5b00da778", func := "sidestick/sidesticklaw04.ShaPads", spec := "shaPads", apart := false, narrowed := true }
def ShaPadsUptoSaid : Prop := shaPadsUptoRow.holds Try.pinned (OpenSpec.upto shaPadsSpec)

/-- 'sidesticklaw04.ShaBlocks', WHERE WHAT IT READS IS OF BULK AT MOST 1048576: true; the input reads as it did. -/
def shaBlocksUptoRow : OpenClaim := { program := "ytfefdjomenfchaa", sum := "9722506abdaebfb013f68958851b152c7a443b571259bf918c5832f5b00da778", func := "sidestick/sidesticklaw04.ShaBlocks", spec := "shaBlocks", apart := false, narrowed := true }
def ShaBlocksUptoSaid : Prop := shaBlocksUptoRow.holds Try.pinned (OpenSpec.upto shaBlocksSpec)

/-- 'sidesticklaw23.ChainParts', WHERE WHAT IT READS IS OF BULK AT MOST 1048576: true; the input reads as it did. -/
def chainPartsUptoRow : OpenClaim := { program := "ytfefdjomenfchaa", sum := "9722506abdaebfb013f68958851b152c7a443b571259bf918c5832f5b00da778", func := "sidestick/sidesticklaw23.ChainParts", spec := "chainParts", apart := false, narrowed := true }
def ChainPartsUptoSaid : Prop := chainPartsUptoRow.holds Try.pinned (OpenSpec.upto chainPartsSpec)

/-- 'sidesticklaw23.ChainBytes', WHERE WHAT IT READS IS OF BULK AT MOST 1048576: true; the input reads as it did. -/
def chainBytesUptoRow : OpenClaim := { program := "ytfefdjomenfchaa", sum := "9722506abdaebfb013f68958851b152c7a443b571259bf918c5832f5b00da778", func := "sidestick/sidesticklaw23.ChainBytes", spec := "chainBytes", apart := false, narrowed := true }
def ChainBytesUptoSaid : Prop := chainBytesUptoRow.holds Try.pinned (OpenSpec.upto chainBytesSpec)

/-- 'sidesticklaw23.ChainSums', WHERE WHAT IT READS IS OF BULK AT MOST 1048576: true; the input reads as it did. -/
def chainSumsUptoRow : OpenClaim := { program := "ytfefdjomenfchaa", sum := "9722506abdaebfb013f68958851b152c7a443b571259bf918c5832f5b00da778", func := "sidestick/sidesticklaw23.ChainSums", spec := "chainSums", apart := false, narrowed := true }
def ChainSumsUptoSaid : Prop := chainSumsUptoRow.holds Try.pinned (OpenSpec.upto chainSumsSpec)

/-- 'sidesticklaw05.MacMade', WHERE WHAT IT READS IS OF BULK AT MOST 1048576: true; the input reads as it did. -/
def macMadeUptoRow : OpenClaim := { program := "ytfefdjomenfchaa", sum := "9722506abdaebfb013f68958851b152c7a443b571259bf918c5832f5b00da778", func := "sidestick/sidesticklaw05.MacMade", spec := "macMade", apart := false, narrowed := true }
def MacMadeUptoSaid : Prop := macMadeUptoRow.holds Try.pinned (OpenSpec.upto macMadeSpec)

/-- 'sidesticklaw05.MacAll', WHERE WHAT IT READS IS OF BULK AT MOST 1048576: true; the input reads as it did. -/
def macAllUptoRow : OpenClaim := { program := "ytfefdjomenfchaa", sum := "9722506abdaebfb013f68958851b152c7a443b571259bf918c5832f5b00da778", func := "sidestick/sidesticklaw05.MacAll", spec := "macAll", apart := false, narrowed := true }
def MacAllUptoSaid : Prop := macAllUptoRow.holds Try.pinned (OpenSpec.upto macAllSpec)

/-- 'sidesticklaw05.MacKeys', WHERE WHAT IT READS IS OF BULK AT MOST 1048576: true; the input reads as it did. -/
def macKeysUptoRow : OpenClaim := { program := "ytfefdjomenfchaa", sum := "9722506abdaebfb013f68958851b152c7a443b571259bf918c5832f5b00da778", func := "sidestick/sidesticklaw05.MacKeys", spec := "macKeys", apart := false, narrowed := true }
def MacKeysUptoSaid : Prop := macKeysUptoRow.holds Try.pinned (OpenSpec.upto macKeysSpec)

/-- 'sidesticklaw05.MacTags', WHERE WHAT IT READS IS OF BULK AT MOST 1048576: true; the input reads as it did. -/
def macTagsUptoRow : OpenClaim := { program := "ytfefdjomenfchaa", sum := "9722506abdaebfb013f68958851b152c7a443b571259bf918c5832f5b00da778", func := "sidestick/sidesticklaw05.MacTags", spec := "macTags", apart := false, narrowed := true }
def MacTagsUptoSaid : Prop := macTagsUptoRow.holds Try.pinned (OpenSpec.upto macTagsSpec)

end Rows
end Go.Proofs.Ytfefdjomenfchaa
