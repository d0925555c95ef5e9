/-
  No cell of these rows narrows 'for every input' (looked for: loops, veiled, ifaces, maps, wideKeys, modest, calm, conditions, laid).
  DERIVED. THE GIVEN ROWS OF THIS SEAT. 6 by the template 'for every input the law returns true; each argument reads behind the call as it read before'; 0 by the template 'total and deterministic' (their statements: YtmgdcebbeglcmaaTotals.lean).
  GIVEN WITH THE SEED: the statements are not yours to turn. If you find one false, say at which input.
  Laid BY PROGRAM, IN A SANDBOX (cutbox-rows.mjs): the forced cells as the released guide's own fill.sh prints them over the translation 404b4224855d4a7e… (all of the seat's roots in one cut). By AI agents, Wed Nov 11 2026. No macro, syntax, notation, axiom, sorry.
-/
import Derived.Test.YtmgdcebbeglcmaaChecked
import GoSem.Claim
import GoSem.ClaimJoined
import GoSem.ClaimMapViews
import Derived.JoinedTies
import Derived.KernelRfl
namespace Go.Proofs.Ytmgdcebbeglcmaa
/- THE CELL 'sum', in the pinned program and in every row, IS THE sha256 OF THE DUMP (.gsa) THAT YtmgdcebbeglcmaaProg.lean LOADS. Nothing in Lean hashes anything: it is a label: what it is worth is what the hold of that sum in a sandbox is worth. -/
noncomputable def Try.pinned : Pinned := { name := "ytmgdcebbeglcmaa", sum := "404b4224855d4a7eb4afe3029ac10bacebc1f115c878bff2a62e197ce406e788", checked := Try.checked }
namespace Rows
def none {H : Type} : Left H := { results := [], args := [] }

/-- 'oxbowlaw13.MergeMerges': WHATEVER THE INPUT: true; the input reads as it did. -/
def mergeMergesSpec : ChangeSpec := { name := "mergeMerges", fn := fun _ => fun
  | [d1, d2, d3] => { results := [.lit (.bool true)], args := [d1, d2, d3] }
  | _ => none }
def mergeMergesRow : OpenClaim := { program := "ytmgdcebbeglcmaa", sum := "404b4224855d4a7eb4afe3029ac10bacebc1f115c878bff2a62e197ce406e788", func := "oxbow/oxbowlaw13.MergeMerges", spec := "mergeMerges", inPlace := ["internal/bytealg.abigen_runtime_cmpstring"], unfollowed := true, recurses := true, apart := false }
def MergeMergesSaid : Prop := mergeMergesRow.holds Try.pinned (OpenSpec.ofChange mergeMergesSpec)

/-- ITS FALSE NEIGHBOUR: 'it returns false'. Refute it at one input. -/
def mergeMergesWrong : ChangeSpec := { name := "mergeMerges", fn := fun _ => fun
  | [d1, d2, d3] => { results := [.lit (.bool false)], args := [d1, d2, d3] }
  | _ => none }
def MergeMergesWrongFalsely : Prop := mergeMergesRow.holds Try.pinned (OpenSpec.ofChange mergeMergesWrong)

/-- 'oxbowlaw13.MergeVisible': WHATEVER THE INPUT: true; the input reads as it did. -/
def mergeVisibleSpec : ChangeSpec := { name := "mergeVisible", fn := fun _ => fun
  | [d1, d2, d3] => { results := [.lit (.bool true)], args := [d1, d2, d3] }
  | _ => none }
def mergeVisibleRow : OpenClaim := { program := "ytmgdcebbeglcmaa", sum := "404b4224855d4a7eb4afe3029ac10bacebc1f115c878bff2a62e197ce406e788", func := "oxbow/oxbowlaw13.MergeVisible", spec := "mergeVisible", inPlace := ["internal/bytealg.abigen_runtime_cmpstring"], unfollowed := true, recurses := true, apart := false }
def MergeVisibleSaid : Prop := mergeVisibleRow.holds Try.pinned (OpenSpec.ofChange mergeVisibleSpec)

/-- ITS FALSE NEIGHBOUR: 'it returns false'. Refute it at one input. -/
def mergeVisibleWrong : ChangeSpec := { name := "mergeVisible", fn := fun _ => fun
  | [d1, d2, d3] => { results := [.lit (.bool false)], args := [d1, d2, d3] }
  | _ => none }
def MergeVisibleWrongFalsely : Prop := mergeVisibleRow.holds Try.pinned (OpenSpec.ofChange mergeVisibleWrong)

/-- 'oxbowlaw13.MergeCompacts': WHATEVER THE INPUT: true; the input reads as it did. -/
def mergeCompactsSpec : ChangeSpec := { name := "mergeCompacts", fn := fun _ => fun
  | [d1, d2, d3] => { results := [.lit (.bool true)], args := [d1, d2, d3] }
  | _ => none }
def mergeCompactsRow : OpenClaim := { program := "ytmgdcebbeglcmaa", sum := "404b4224855d4a7eb4afe3029ac10bacebc1f115c878bff2a62e197ce406e788", func := "oxbow/oxbowlaw13.MergeCompacts", spec := "mergeCompacts", inPlace := ["internal/bytealg.abigen_runtime_cmpstring"], unfollowed := true, recurses := true, apart := false }
def MergeCompactsSaid : Prop := mergeCompactsRow.holds Try.pinned (OpenSpec.ofChange mergeCompactsSpec)

/-- ITS FALSE NEIGHBOUR: 'it returns false'. Refute it at one input. -/
def mergeCompactsWrong : ChangeSpec := { name := "mergeCompacts", fn := fun _ => fun
  | [d1, d2, d3] => { results := [.lit (.bool false)], args := [d1, d2, d3] }
  | _ => none }
def MergeCompactsWrongFalsely : Prop := mergeCompactsRow.holds Try.pinned (OpenSpec.ofChange mergeCompactsWrong)

/-- 'oxbowlaw13.MergeKeeps': WHATEVER THE INPUT: true; the input reads as it did. -/
def mergeKeepsSpec : ChangeSpec := { name := "mergeKeeps", fn := fun _ => fun
  | [d1, d2, d3] => { results := [.lit (.bool true)], args := [d1, d2, d3] }
  | _ => none }
def mergeKeepsRow : OpenClaim := { program := "ytmgdcebbeglcmaa", sum := "404b4224855d4a7eb4afe3029ac10bacebc1f115c878bff2a62e197ce406e788", func := "oxbow/oxbowlaw13.MergeKeeps", spec := "mergeKeeps", inPlace := ["internal/bytealg.abigen_runtime_cmpstring"], unfollowed := true, recurses := true, apart := false }
def MergeKeepsSaid : Prop := mergeKeepsRow.holds Try.pinned (OpenSpec.ofChange mergeKeepsSpec)

/-- ITS FALSE NEIGHBOUR: 'it returns false'. Refute it at one input. -/
def mergeKeepsWrong : ChangeSpec := { name := "mergeKeeps", fn := fun _ => fun
  | [d1, d2, d3] => { results := [.lit (.bool false)], args := [d1, d2, d3] }
  | _ => none }
def MergeKeepsWrongFalsely : Prop := mergeKeepsRow.holds Try.pinned (OpenSpec.ofChange mergeKeepsWrong)

/-- 'oxbowlaw13.MergeAny': WHATEVER THE INPUT: true; the input reads as it did. -/
def mergeAnySpec : ChangeSpec := { name := "mergeAny", fn := fun _ => fun
  | [d1, d2] => { results := [.lit (.bool true)], args := [d1, d2] }
  | _ => none }
def mergeAnyRow : OpenClaim := { program := "ytmgdcebbeglcmaa", sum := "404b4224855d4a7eb4afe3029ac10bacebc1f115c878bff2a62e197ce406e788", func := "oxbow/oxbowlaw13.MergeAny", spec := "mergeAny", inPlace := ["internal/bytealg.abigen_runtime_cmpstring"], unfollowed := true, recurses := true, apart := false }
def MergeAnySaid : Prop := mergeAnyRow.holds Try.pinned (OpenSpec.ofChange mergeAnySpec)

/-- ITS FALSE NEIGHBOUR: 'it returns false'. Refute it at one input. -/
def mergeAnyWrong : ChangeSpec := { name := "mergeAny", fn := fun _ => fun
  | [d1, d2] => { results := [.lit (.bool false)], args := [d1, d2] }
  | _ => none }
def MergeAnyWrongFalsely : Prop := mergeAnyRow.holds Try.pinned (OpenSpec.ofChange mergeAnyWrong)

/-- 'oxbowlaw13.MergeTwice': WHATEVER THE INPUT: true; the input reads as it did. -/
def mergeTwiceSpec : ChangeSpec := { name := "mergeTwice", fn := fun _ => fun
  | [d1, d2, d3] => { results := [.lit (.bool true)], args := [d1, d2, d3] }
  | _ => none }
def mergeTwiceRow : OpenClaim := { program := "ytmgdcebbeglcmaa", sum := "404b4224855d4a7eb4afe3029ac10bacebc1f115c878bff2a62e197ce406e788", func := "oxbow/oxbowlaw13.MergeTwice", spec := "mergeTwice", inPlace := ["internal/bytealg.abigen_runtime_cmpstring"], unfollowed := true, recurses := true, apart := false }
def MergeTwiceSaid : Prop := mergeTwiceRow.holds Try.pinned (OpenSpec.ofChange mergeTwiceSpec)

/-- ITS FALSE NEIGHBOUR: 'it returns false'. Refute it at one input. -/
def mergeTwiceWrong : ChangeSpec := { name := "mergeTwice", fn := fun _ => fun
  | [d1, d2, d3] => { results := [.lit (.bool false)], args := [d1, d2, d3] }
  | _ => none }
def MergeTwiceWrongFalsely : Prop := mergeTwiceRow.holds Try.pinned (OpenSpec.ofChange mergeTwiceWrong)

/- THE SECOND FORM. 'bulk': how many values and letters a reading holds, each counted each time it is reached (what is shared counts as often as it is met; a slice's spare places count too). A statement '..UptoSaid' is the law's where the arguments, and the package variables that the reading takes, are together of bulk at most 1048576: NARROWER than '..Said'. Prove '..Said' where nothing that the law and all that it calls make is longer than what came in: it says more and counts as full. Else prove '..UptoSaid'. A law counts once. -/
mutual
def uptoBulk {H : Type} : DataW H → Nat
  | .lit (.string bytes) => bytes.length + 1
  | .lit _ => 1
  | .nil => 1
  | .ptr d => uptoBulk d + 1
  | .slice elems spare => uptoBulkAll elems + uptoBulkAll spare + 1
  | .agg parts => uptoBulkAll parts + 1
  | .iface _ d => uptoBulk d + 1
  | .map entries => uptoBulkEntries entries + 1
  | .held _ => 1
def uptoBulkAll {H : Type} : List (DataW H) → Nat
  | [] => 0
  | d :: r => uptoBulk d + uptoBulkAll r
def uptoBulkEntries {H : Type} : List (Lit × DataW H) → Nat
  | [] => 0
  | x :: r => uptoBulkEntry x + uptoBulkEntries r
def uptoBulkEntry {H : Type} : Lit × DataW H → Nat
  | (.string bytes, d) => bytes.length + uptoBulk d + 1
  | (_, d) => uptoBulk d + 1
 end
def uptoSmall : (H : Type) → List (DataW H) → Bool := fun _ ds => decide (uptoBulkAll ds ≤ 1048576)
def OpenSpec.upto (s : _root_.Go.ChangeSpec) : _root_.Go.OpenSpec := { _root_.Go.OpenSpec.ofChange s with cond := some uptoSmall }

/-- 'oxbowlaw13.MergeMerges', WHERE WHAT IT READS IS OF BULK AT MOST 1048576: true; the input reads as it did. -/
def mergeMergesUptoRow : OpenClaim := { program := "ytmgdcebbeglcmaa", sum := "404b4224855d4a7eb4afe3029ac10bacebc1f115c878bff2a62e197ce406e788", func := "oxbow/oxbowlaw13.MergeMerges", spec := "mergeMerges", inPlace := ["internal/bytealg.abigen_runtime_cmpstring"], unfollowed := true, recurses := true, apart := false, narrowed := true }
def MergeMergesUptoSaid : Prop := mergeMergesUptoRow.holds Try.pinned (OpenSpec.upto mergeMergesSpec)

/-- 'oxbowlaw13.MergeVisible', WHERE WHAT IT READS IS OF BULK AT MOST 1048576: true; the input reads as it did. -/
def mergeVisibleUptoRow : OpenClaim := { program := "ytmgdcebbeglcmaa", sum := "404b4224855d4a7eb4afe3029ac10bacebc1f115c878bff2a62e197ce406e788", func := "oxbow/oxbowlaw13.MergeVisible", spec := "mergeVisible", inPlace := ["internal/bytealg.abigen_runtime_cmpstring"], unfollowed := true, recurses := true, apart := false, narrowed := true }
def MergeVisibleUptoSaid : Prop := mergeVisibleUptoRow.holds Try.pinned (OpenSpec.upto mergeVisibleSpec)

/-- 'oxbowlaw13.MergeCompacts', WHERE WHAT IT READS IS OF BULK AT MOST 1048576: true; the input reads as it did. -/
def mergeCompactsUptoRow : OpenClaim := { program := "ytmgdcebbeglcmaa", sum := "404b4224855d4a7eb4afe3029ac10bacebc1f115c878bff2a62e197ce406e788", func := "oxbow/oxbowlaw13.MergeCompacts", spec := "mergeCompacts", inPlace := ["internal/bytealg.abigen_runtime_cmpstring"], unfollowed := true, recurses := true, apart := false, narrowed := true }
def MergeCompactsUptoSaid : Prop := mergeCompactsUptoRow.holds Try.pinned (OpenSpec.upto mergeCompactsSpec)

/-- 'oxbowlaw13.MergeKeeps', WHERE WHAT IT READS IS OF BULK AT MOST 1048576: true; the input reads as it did. -/
def mergeKeepsUptoRow : OpenClaim := { program := "ytmgdcebbeglcmaa", sum := "404b4224855d4a7eb4afe3029ac10bacebc1f115c878bff2a62e197ce406e788", func := "oxbow/oxbowlaw13.MergeKeeps", spec := "mergeKeeps", inPlace := ["internal/bytealg.abigen_runtime_cmpstring"], unfollowed := true, recurses := true, apart := false, narrowed := true }
def MergeKeepsUptoSaid : Prop := mergeKeepsUptoRow.holds Try.pinned (OpenSpec.upto mergeKeepsSpec)

/-- 'oxbowlaw13.MergeAny', WHERE WHAT IT READS IS OF BULK AT MOST 1048576: true; the input reads as it did. -/
def mergeAnyUptoRow : OpenClaim := { program := "ytmgdcebbeglcmaa", sum := "404b4224855d4a7eb4afe3029ac10bacebc1f115c878bff2a62e197ce406e788", func := "oxbow/oxbowlaw13.MergeAny", spec := "mergeAny", inPlace := ["internal/bytealg.abigen_runtime_cmpstring"], unfollowed := true, recurses := true, apart := false, narrowed := true }
def MergeAnyUptoSaid : Prop := mergeAnyUptoRow.holds Try.pinned (OpenSpec.upto mergeAnySpec)

/-- 'oxbowlaw13.MergeTwice', WHERE WHAT IT READS IS OF BULK AT MOST 1048576: true; the input reads as it did. -/
def mergeTwiceUptoRow : OpenClaim := { program := "ytmgdcebbeglcmaa", sum := "404b4224855d4a7eb4afe3029ac10bacebc1f115c878bff2a62e197ce406e788", func := "oxbow/oxbowlaw13.MergeTwice", spec := "mergeTwice", inPlace := ["internal/bytealg.abigen_runtime_cmpstring"], unfollowed := true, recurses := true, apart := false, narrowed := true }
def MergeTwiceUptoSaid : Prop := mergeTwiceUptoRow.holds Try.pinned (OpenSpec.upto mergeTwiceSpec)

end Rows
end Go.Proofs.Ytmgdcebbeglcmaa
