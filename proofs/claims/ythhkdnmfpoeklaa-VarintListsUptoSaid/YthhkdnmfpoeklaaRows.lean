/-
  No cell of these rows narrows 'for every input' (looked for: loops, veiled, ifaces, maps, wideKeys, modest, calm, conditions, laid).
  DERIVED. THE GIVEN ROWS OF THIS SEAT. 6 by the template 'for every input the law returns true; each argument reads behind the call as it read before'; 0 by the template 'total and deterministic' (their statements: YthhkdnmfpoeklaaTotals.lean).
  GIVEN WITH THE SEED: the statements are not yours to turn. If you find one false, say at which input.
  Laid BY PROGRAM, IN A SANDBOX (cutbox-rows.mjs): the forced cells as the released guide's own fill.sh prints them over the translation e771ca8ab328e499… (all of the seat's roots in one cut). By AI agents, Wed Nov 11 2026. No macro, syntax, notation, axiom, sorry.
-/
import Derived.Test.YthhkdnmfpoeklaaChecked
import GoSem.Claim
import GoSem.ClaimJoined
import GoSem.ClaimMapViews
import Derived.JoinedTies
import Derived.KernelRfl
namespace Go.Proofs.Ythhkdnmfpoeklaa
/- THE CELL 'sum', in the pinned program and in every row, IS THE sha256 OF THE DUMP (.gsa) THAT YthhkdnmfpoeklaaProg.lean LOADS. Nothing in Lean hashes anything: it is a label: what it is worth is what the hold of that sum in a sandbox is worth. -/
noncomputable def Try.pinned : Pinned := { name := "ythhkdnmfpoeklaa", sum := "e771ca8ab328e499a54f9b66666bab1f75738ae5c9917352f914b0798efdb016", checked := Try.checked }
namespace Rows
def none {H : Type} : Left H := { results := [], args := [] }

/-- 'oxbowlaw01.VarintPuts': WHATEVER THE INPUT: true; the input reads as it did. -/
def varintPutsSpec : ChangeSpec := { name := "varintPuts", fn := fun _ => fun
  | [d] => { results := [.lit (.bool true)], args := [d] }
  | _ => none }
def varintPutsRow : OpenClaim := { program := "ythhkdnmfpoeklaa", sum := "e771ca8ab328e499a54f9b66666bab1f75738ae5c9917352f914b0798efdb016", func := "oxbow/oxbowlaw01.VarintPuts", spec := "varintPuts", apart := false }
def VarintPutsSaid : Prop := varintPutsRow.holds Try.pinned (OpenSpec.ofChange varintPutsSpec)

/-- ITS FALSE NEIGHBOUR: 'it returns false'. Refute it at one input. -/
def varintPutsWrong : ChangeSpec := { name := "varintPuts", fn := fun _ => fun
  | [d] => { results := [.lit (.bool false)], args := [d] }
  | _ => none }
def VarintPutsWrongFalsely : Prop := varintPutsRow.holds Try.pinned (OpenSpec.ofChange varintPutsWrong)

/-- 'oxbowlaw01.VarintShortest': WHATEVER THE INPUT: true; the input reads as it did. -/
def varintShortestSpec : ChangeSpec := { name := "varintShortest", fn := fun _ => fun
  | [d] => { results := [.lit (.bool true)], args := [d] }
  | _ => none }
def varintShortestRow : OpenClaim := { program := "ythhkdnmfpoeklaa", sum := "e771ca8ab328e499a54f9b66666bab1f75738ae5c9917352f914b0798efdb016", func := "oxbow/oxbowlaw01.VarintShortest", spec := "varintShortest", apart := false }
def VarintShortestSaid : Prop := varintShortestRow.holds Try.pinned (OpenSpec.ofChange varintShortestSpec)

/-- ITS FALSE NEIGHBOUR: 'it returns false'. Refute it at one input. -/
def varintShortestWrong : ChangeSpec := { name := "varintShortest", fn := fun _ => fun
  | [d] => { results := [.lit (.bool false)], args := [d] }
  | _ => none }
def VarintShortestWrongFalsely : Prop := varintShortestRow.holds Try.pinned (OpenSpec.ofChange varintShortestWrong)

/-- 'oxbowlaw01.VarintPrefixes': WHATEVER THE INPUT: true; the input reads as it did. -/
def varintPrefixesSpec : ChangeSpec := { name := "varintPrefixes", fn := fun _ => fun
  | [d1, d2] => { results := [.lit (.bool true)], args := [d1, d2] }
  | _ => none }
def varintPrefixesRow : OpenClaim := { program := "ythhkdnmfpoeklaa", sum := "e771ca8ab328e499a54f9b66666bab1f75738ae5c9917352f914b0798efdb016", func := "oxbow/oxbowlaw01.VarintPrefixes", spec := "varintPrefixes", apart := false }
def VarintPrefixesSaid : Prop := varintPrefixesRow.holds Try.pinned (OpenSpec.ofChange varintPrefixesSpec)

/-- ITS FALSE NEIGHBOUR: 'it returns false'. Refute it at one input. -/
def varintPrefixesWrong : ChangeSpec := { name := "varintPrefixes", fn := fun _ => fun
  | [d1, d2] => { results := [.lit (.bool false)], args := [d1, d2] }
  | _ => none }
def VarintPrefixesWrongFalsely : Prop := varintPrefixesRow.holds Try.pinned (OpenSpec.ofChange varintPrefixesWrong)

/-- 'oxbowlaw01.VarintTexts': WHATEVER THE INPUT: true; the input reads as it did. -/
def varintTextsSpec : ChangeSpec := { name := "varintTexts", fn := fun _ => fun
  | [d1, d2] => { results := [.lit (.bool true)], args := [d1, d2] }
  | _ => none }
def varintTextsRow : OpenClaim := { program := "ythhkdnmfpoeklaa", sum := "e771ca8ab328e499a54f9b66666bab1f75738ae5c9917352f914b0798efdb016", func := "oxbow/oxbowlaw01.VarintTexts", spec := "varintTexts", apart := false }
def VarintTextsSaid : Prop := varintTextsRow.holds Try.pinned (OpenSpec.ofChange varintTextsSpec)

/-- ITS FALSE NEIGHBOUR: 'it returns false'. Refute it at one input. -/
def varintTextsWrong : ChangeSpec := { name := "varintTexts", fn := fun _ => fun
  | [d1, d2] => { results := [.lit (.bool false)], args := [d1, d2] }
  | _ => none }
def VarintTextsWrongFalsely : Prop := varintTextsRow.holds Try.pinned (OpenSpec.ofChange varintTextsWrong)

/-- 'oxbowlaw01.VarintBack': WHATEVER THE INPUT: true; the input reads as it did. -/
def varintBackSpec : ChangeSpec := { name := "varintBack", fn := fun _ => fun
  | [d1, d2, d3] => { results := [.lit (.bool true)], args := [d1, d2, d3] }
  | _ => none }
def varintBackRow : OpenClaim := { program := "ythhkdnmfpoeklaa", sum := "e771ca8ab328e499a54f9b66666bab1f75738ae5c9917352f914b0798efdb016", func := "oxbow/oxbowlaw01.VarintBack", spec := "varintBack", apart := false }
def VarintBackSaid : Prop := varintBackRow.holds Try.pinned (OpenSpec.ofChange varintBackSpec)

/-- ITS FALSE NEIGHBOUR: 'it returns false'. Refute it at one input. -/
def varintBackWrong : ChangeSpec := { name := "varintBack", fn := fun _ => fun
  | [d1, d2, d3] => { results := [.lit (.bool false)], args := [d1, d2, d3] }
  | _ => none }
def VarintBackWrongFalsely : Prop := varintBackRow.holds Try.pinned (OpenSpec.ofChange varintBackWrong)

/-- 'oxbowlaw01.VarintLists': WHATEVER THE INPUT: true; the input reads as it did. -/
def varintListsSpec : ChangeSpec := { name := "varintLists", fn := fun _ => fun
  | [d1, d2] => { results := [.lit (.bool true)], args := [d1, d2] }
  | _ => none }
def varintListsRow : OpenClaim := { program := "ythhkdnmfpoeklaa", sum := "e771ca8ab328e499a54f9b66666bab1f75738ae5c9917352f914b0798efdb016", func := "oxbow/oxbowlaw01.VarintLists", spec := "varintLists", inPlace := ["internal/abi.NoEscape"], apart := false }
def VarintListsSaid : Prop := varintListsRow.holds Try.pinned (OpenSpec.ofChange varintListsSpec)

/-- ITS FALSE NEIGHBOUR: 'it returns false'. Refute it at one input. -/
def varintListsWrong : ChangeSpec := { name := "varintLists", fn := fun _ => fun
  | [d1, d2] => { results := [.lit (.bool false)], args := [d1, d2] }
  | _ => none }
def VarintListsWrongFalsely : Prop := varintListsRow.holds Try.pinned (OpenSpec.ofChange varintListsWrong)

/- THE SECOND FORM. 'bulk': how many values and letters a reading holds, each counted each time it is reached (what is shared counts as often as it is met; a slice's spare places count too). A statement '..UptoSaid' is the law's where the arguments, and the package variables that the reading takes, are together of bulk at most 1048576: NARROWER than '..Said'. Prove '..Said' where nothing that the law and all that it calls make is longer than what came in: it says more and counts as full. Else prove '..UptoSaid'. A law counts once. -/
mutual
def uptoBulk {H : Type} : DataW H → Nat
  | .lit (.string bytes) => bytes.length + 1
  | .lit _ => 1
  | .nil => 1
  | .ptr d => uptoBulk d + 1
  | .slice elems spare => uptoBulkAll elems + uptoBulkAll spare + 1
  | .agg parts => uptoBulkAll parts + 1
  | .iface _ d => uptoBulk d + 1
  | .map entries => uptoBulkEntries entries + 1
  | .held _ => 1
def uptoBulkAll {H : Type} : List (DataW H) → Nat
  | [] => 0
  | d :: r => uptoBulk d + uptoBulkAll r
def uptoBulkEntries {H : Type} : List (Lit × DataW H) → Nat
  | [] => 0
  | x :: r => uptoBulkEntry x + uptoBulkEntries r
def uptoBulkEntry {H : Type} : Lit × DataW H → Nat
  | (.string bytes, d) => bytes.length + uptoBulk d + 1
  | (_, d) => uptoBulk d + 1
 end
def uptoSmall : (H : Type) → List (DataW H) → Bool := fun _ ds => decide (uptoBulkAll ds ≤ 1048576)
def OpenSpec.upto (s : _root_.Go.ChangeSpec) : _root_.Go.OpenSpec := { _root_.Go.OpenSpec.ofChange s with cond := some uptoSmall }

/-- 'oxbowlaw01.VarintPuts', WHERE WHAT IT READS IS OF BULK AT MOST 1048576: true; the input reads as it did. -/
def varintPutsUptoRow : OpenClaim := { program := "ythhkdnmfpoeklaa", sum := "e771ca8ab328e499a54f9b66666bab1f75738ae5c9917352f914b0798efdb016", func := "oxbow/oxbowlaw01.VarintPuts", spec := "varintPuts", apart := false, narrowed := true }
def VarintPutsUptoSaid : Prop := varintPutsUptoRow.holds Try.pinned (OpenSpec.upto varintPutsSpec)

/-- 'oxbowlaw01.VarintShortest', WHERE WHAT IT READS IS OF BULK AT MOST 1048576: true; the input reads as it did. -/
def varintShortestUptoRow : OpenClaim := { program := "ythhkdnmfpoeklaa", sum := "e771ca8ab328e499a54f9b66666bab1f75738ae5c9917352f914b0798efdb016", func := "oxbow/oxbowlaw01.VarintShortest", spec := "varintShortest", apart := false, narrowed := true }
def VarintShortestUptoSaid : Prop := varintShortestUptoRow.holds Try.pinned (OpenSpec.upto varintShortestSpec)

/-- 'oxbowlaw01.VarintPrefixes', WHERE WHAT IT READS IS OF BULK AT MOST 1048576: true; the input reads as it did. -/
def varintPrefixesUptoRow : OpenClaim := { program := "ythhkdnmfpoeklaa", sum := "e771ca8ab328e499a54f9b66666bab1f75738ae5c9917352f914b0798efdb016", func := "oxbow/oxbowlaw01.VarintPrefixes", spec := "varintPrefixes", apart := false, narrowed := true }
def VarintPrefixesUptoSaid : Prop := varintPrefixesUptoRow.holds Try.pinned (OpenSpec.upto varintPrefixesSpec)

/-- 'oxbowlaw01.VarintTexts', WHERE WHAT IT READS IS OF BULK AT MOST 1048576: true; the input reads as it did. -/
def varintTextsUptoRow : OpenClaim := { program := "ythhkdnmfpoeklaa", sum := "e771ca8ab328e499a54f9b66666bab1f75738ae5c9917352f914b0798efdb016", func := "oxbow/oxbowlaw01.VarintTexts", spec := "varintTexts", apart := false, narrowed := true }
def VarintTextsUptoSaid : Prop := varintTextsUptoRow.holds Try.pinned (OpenSpec.upto varintTextsSpec)

/-- 'oxbowlaw01.VarintBack', WHERE WHAT IT READS IS OF BULK AT MOST 1048576: true; the input reads as it did. -/
def varintBackUptoRow : OpenClaim := { program := "ythhkdnmfpoeklaa", sum := "e771ca8ab328e499a54f9b66666bab1f75738ae5c9917352f914b0798efdb016", func := "oxbow/oxbowlaw01.VarintBack", spec := "varintBack", apart := false, narrowed := true }
def VarintBackUptoSaid : Prop := varintBackUptoRow.holds Try.pinned (OpenSpec.upto varintBackSpec)

/-- 'oxbowlaw01.VarintLists', WHERE WHAT IT READS IS OF BULK AT MOST 1048576: true; the input reads as it did. -/
def varintListsUptoRow : OpenClaim := { program := "ythhkdnmfpoeklaa", sum := "e771ca8ab328e499a54f9b66666bab1f75738ae5c9917352f914b0798efdb016", func := "oxbow/oxbowlaw01.VarintLists", spec := "varintLists", inPlace := ["internal/abi.NoEscape"], apart := false, narrowed := true }
def VarintListsUptoSaid : Prop := varintListsUptoRow.holds Try.pinned (OpenSpec.upto varintListsSpec)

end Rows
end Go.Proofs.Ythhkdnmfpoeklaa
