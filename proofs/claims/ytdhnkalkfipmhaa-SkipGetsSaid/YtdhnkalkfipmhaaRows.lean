/-
  No cell of these rows narrows 'for every input' (looked for: loops, veiled, ifaces, maps, wideKeys, modest, calm, conditions, laid).
  DERIVED. THE GIVEN ROWS OF THIS SEAT. 8 by the template 'for every input the law returns true; each argument reads behind the call as it read before'; 0 by the template 'total and deterministic' (their statements: YtdhnkalkfipmhaaTotals.lean).
  GIVEN WITH THE SEED: the statements are not yours to turn. If you find one false, say at which input.
  Laid BY PROGRAM, IN A SANDBOX (cutbox-rows.mjs): the forced cells as the released guide's own fill.sh prints them over the translation 834122b8408a754d… (all of the seat's roots in one cut). By AI agents, Wed Nov 11 2026. No macro, syntax, notation, axiom, sorry.
-/
import Derived.Test.YtdhnkalkfipmhaaChecked
import GoSem.Claim
import GoSem.ClaimJoined
import GoSem.ClaimMapViews
import Derived.JoinedTies
import Derived.KernelRfl
namespace Go.Proofs.Ytdhnkalkfipmhaa
/- THE CELL 'sum', in the pinned program and in every row, IS THE sha256 OF THE DUMP (.gsa) THAT YtdhnkalkfipmhaaProg.lean LOADS. Nothing in Lean hashes anything: it is a label: what it is worth is what the hold of that sum in a sandbox is worth. -/
noncomputable def Try.pinned : Pinned := { name := "ytdhnkalkfipmhaa", sum := "834122b8408a754d4f362d0ab997f16b20e36411f4fcd5e2bc8c8dabda85bf5d", checked := Try.checked }
namespace Rows
def none {H : Type} : Left H := { results := [], args := [] }

/-- 'oxbowlaw07.BatchPuts': WHATEVER THE INPUT: true; the input reads as it did. -/
def batchPutsSpec : ChangeSpec := { name := "batchPuts", fn := fun _ => fun
  | [d] => { results := [.lit (.bool true)], args := [d] }
  | _ => none }
def batchPutsRow : OpenClaim := { program := "ytdhnkalkfipmhaa", sum := "834122b8408a754d4f362d0ab997f16b20e36411f4fcd5e2bc8c8dabda85bf5d", func := "oxbow/oxbowlaw07.BatchPuts", spec := "batchPuts", inPlace := ["internal/abi.NoEscape"], apart := false }
def BatchPutsSaid : Prop := batchPutsRow.holds Try.pinned (OpenSpec.ofChange batchPutsSpec)

/-- ITS FALSE NEIGHBOUR: 'it returns false'. Refute it at one input. -/
def batchPutsWrong : ChangeSpec := { name := "batchPuts", fn := fun _ => fun
  | [d] => { results := [.lit (.bool false)], args := [d] }
  | _ => none }
def BatchPutsWrongFalsely : Prop := batchPutsRow.holds Try.pinned (OpenSpec.ofChange batchPutsWrong)

/-- 'oxbowlaw07.BatchNumbers': WHATEVER THE INPUT: true; the input reads as it did. -/
def batchNumbersSpec : ChangeSpec := { name := "batchNumbers", fn := fun _ => fun
  | [d1, d2] => { results := [.lit (.bool true)], args := [d1, d2] }
  | _ => none }
def batchNumbersRow : OpenClaim := { program := "ytdhnkalkfipmhaa", sum := "834122b8408a754d4f362d0ab997f16b20e36411f4fcd5e2bc8c8dabda85bf5d", func := "oxbow/oxbowlaw07.BatchNumbers", spec := "batchNumbers", inPlace := ["internal/abi.NoEscape"], apart := false }
def BatchNumbersSaid : Prop := batchNumbersRow.holds Try.pinned (OpenSpec.ofChange batchNumbersSpec)

/-- ITS FALSE NEIGHBOUR: 'it returns false'. Refute it at one input. -/
def batchNumbersWrong : ChangeSpec := { name := "batchNumbers", fn := fun _ => fun
  | [d1, d2] => { results := [.lit (.bool false)], args := [d1, d2] }
  | _ => none }
def BatchNumbersWrongFalsely : Prop := batchNumbersRow.holds Try.pinned (OpenSpec.ofChange batchNumbersWrong)

/-- 'oxbowlaw06.SkipPuts': WHATEVER THE INPUT: true; the input reads as it did. -/
def skipPutsSpec : ChangeSpec := { name := "skipPuts", fn := fun _ => fun
  | [d1, d2] => { results := [.lit (.bool true)], args := [d1, d2] }
  | _ => none }
def skipPutsRow : OpenClaim := { program := "ytdhnkalkfipmhaa", sum := "834122b8408a754d4f362d0ab997f16b20e36411f4fcd5e2bc8c8dabda85bf5d", func := "oxbow/oxbowlaw06.SkipPuts", spec := "skipPuts", inPlace := ["internal/bytealg.abigen_runtime_cmpstring"], unfollowed := true, recurses := true, apart := false }
def SkipPutsSaid : Prop := skipPutsRow.holds Try.pinned (OpenSpec.ofChange skipPutsSpec)

/-- ITS FALSE NEIGHBOUR: 'it returns false'. Refute it at one input. -/
def skipPutsWrong : ChangeSpec := { name := "skipPuts", fn := fun _ => fun
  | [d1, d2] => { results := [.lit (.bool false)], args := [d1, d2] }
  | _ => none }
def SkipPutsWrongFalsely : Prop := skipPutsRow.holds Try.pinned (OpenSpec.ofChange skipPutsWrong)

/-- 'oxbowlaw06.SkipGets': WHATEVER THE INPUT: true; the input reads as it did. -/
def skipGetsSpec : ChangeSpec := { name := "skipGets", fn := fun _ => fun
  | [d1, d2, d3] => { results := [.lit (.bool true)], args := [d1, d2, d3] }
  | _ => none }
def skipGetsRow : OpenClaim := { program := "ytdhnkalkfipmhaa", sum := "834122b8408a754d4f362d0ab997f16b20e36411f4fcd5e2bc8c8dabda85bf5d", func := "oxbow/oxbowlaw06.SkipGets", spec := "skipGets", inPlace := ["internal/bytealg.abigen_runtime_cmpstring"], unfollowed := true, recurses := true, apart := false }
def SkipGetsSaid : Prop := skipGetsRow.holds Try.pinned (OpenSpec.ofChange skipGetsSpec)

/-- ITS FALSE NEIGHBOUR: 'it returns false'. Refute it at one input. -/
def skipGetsWrong : ChangeSpec := { name := "skipGets", fn := fun _ => fun
  | [d1, d2, d3] => { results := [.lit (.bool false)], args := [d1, d2, d3] }
  | _ => none }
def SkipGetsWrongFalsely : Prop := skipGetsRow.holds Try.pinned (OpenSpec.ofChange skipGetsWrong)

/-- 'oxbowlaw06.SkipGood': WHATEVER THE INPUT: true; the input reads as it did. -/
def skipGoodSpec : ChangeSpec := { name := "skipGood", fn := fun _ => fun
  | [d1, d2] => { results := [.lit (.bool true)], args := [d1, d2] }
  | _ => none }
def skipGoodRow : OpenClaim := { program := "ytdhnkalkfipmhaa", sum := "834122b8408a754d4f362d0ab997f16b20e36411f4fcd5e2bc8c8dabda85bf5d", func := "oxbow/oxbowlaw06.SkipGood", spec := "skipGood", inPlace := ["internal/bytealg.abigen_runtime_cmpstring"], unfollowed := true, recurses := true, apart := false }
def SkipGoodSaid : Prop := skipGoodRow.holds Try.pinned (OpenSpec.ofChange skipGoodSpec)

/-- ITS FALSE NEIGHBOUR: 'it returns false'. Refute it at one input. -/
def skipGoodWrong : ChangeSpec := { name := "skipGood", fn := fun _ => fun
  | [d1, d2] => { results := [.lit (.bool false)], args := [d1, d2] }
  | _ => none }
def SkipGoodWrongFalsely : Prop := skipGoodRow.holds Try.pinned (OpenSpec.ofChange skipGoodWrong)

/-- 'oxbowlaw07.BatchGets': WHATEVER THE INPUT: true; the input reads as it did. -/
def batchGetsSpec : ChangeSpec := { name := "batchGets", fn := fun _ => fun
  | [d] => { results := [.lit (.bool true)], args := [d] }
  | _ => none }
def batchGetsRow : OpenClaim := { program := "ytdhnkalkfipmhaa", sum := "834122b8408a754d4f362d0ab997f16b20e36411f4fcd5e2bc8c8dabda85bf5d", func := "oxbow/oxbowlaw07.BatchGets", spec := "batchGets", inPlace := ["internal/abi.NoEscape"], unfollowed := true, recurses := true, apart := false }
def BatchGetsSaid : Prop := batchGetsRow.holds Try.pinned (OpenSpec.ofChange batchGetsSpec)

/-- ITS FALSE NEIGHBOUR: 'it returns false'. Refute it at one input. -/
def batchGetsWrong : ChangeSpec := { name := "batchGets", fn := fun _ => fun
  | [d] => { results := [.lit (.bool false)], args := [d] }
  | _ => none }
def BatchGetsWrongFalsely : Prop := batchGetsRow.holds Try.pinned (OpenSpec.ofChange batchGetsWrong)

/-- 'oxbowlaw07.BatchBack': WHATEVER THE INPUT: true; the input reads as it did. -/
def batchBackSpec : ChangeSpec := { name := "batchBack", fn := fun _ => fun
  | [d1, d2] => { results := [.lit (.bool true)], args := [d1, d2] }
  | _ => none }
def batchBackRow : OpenClaim := { program := "ytdhnkalkfipmhaa", sum := "834122b8408a754d4f362d0ab997f16b20e36411f4fcd5e2bc8c8dabda85bf5d", func := "oxbow/oxbowlaw07.BatchBack", spec := "batchBack", inPlace := ["internal/abi.NoEscape"], unfollowed := true, recurses := true, apart := false }
def BatchBackSaid : Prop := batchBackRow.holds Try.pinned (OpenSpec.ofChange batchBackSpec)

/-- ITS FALSE NEIGHBOUR: 'it returns false'. Refute it at one input. -/
def batchBackWrong : ChangeSpec := { name := "batchBack", fn := fun _ => fun
  | [d1, d2] => { results := [.lit (.bool false)], args := [d1, d2] }
  | _ => none }
def BatchBackWrongFalsely : Prop := batchBackRow.holds Try.pinned (OpenSpec.ofChange batchBackWrong)

/-- 'oxbowlaw07.BatchCuts': WHATEVER THE INPUT: true; the input reads as it did. -/
def batchCutsSpec : ChangeSpec := { name := "batchCuts", fn := fun _ => fun
  | [d1, d2, d3] => { results := [.lit (.bool true)], args := [d1, d2, d3] }
  | _ => none }
def batchCutsRow : OpenClaim := { program := "ytdhnkalkfipmhaa", sum := "834122b8408a754d4f362d0ab997f16b20e36411f4fcd5e2bc8c8dabda85bf5d", func := "oxbow/oxbowlaw07.BatchCuts", spec := "batchCuts", inPlace := ["internal/abi.NoEscape"], unfollowed := true, recurses := true, apart := false }
def BatchCutsSaid : Prop := batchCutsRow.holds Try.pinned (OpenSpec.ofChange batchCutsSpec)

/-- ITS FALSE NEIGHBOUR: 'it returns false'. Refute it at one input. -/
def batchCutsWrong : ChangeSpec := { name := "batchCuts", fn := fun _ => fun
  | [d1, d2, d3] => { results := [.lit (.bool false)], args := [d1, d2, d3] }
  | _ => none }
def BatchCutsWrongFalsely : Prop := batchCutsRow.holds Try.pinned (OpenSpec.ofChange batchCutsWrong)

/- THE SECOND FORM. 'bulk': how many values and letters a reading holds, each counted each time it is reached (what is shared counts as often as it is met; a slice's spare places count too). A statement '..UptoSaid' is the law's where the arguments, and the package variables that the reading takes, are together of bulk at most 1048576: NARROWER than '..Said'. Prove '..Said' where nothing that the law and all that it calls make is longer than what came in: it says more and counts as full. Else prove '..UptoSaid'. A law counts once. -/
mutual
def uptoBulk {H : Type} : DataW H → Nat
  | .lit (.string bytes) => bytes.length + 1
  | .lit _ => 1
  | .nil => 1
  | .ptr d => uptoBulk d + 1
  | .slice elems spare => uptoBulkAll elems + uptoBulkAll spare + 1
  | .agg parts => uptoBulkAll parts + 1
  | .iface _ d => uptoBulk d + 1
  | .map entries => uptoBulkEntries entries + 1
  | .held _ => 1
def uptoBulkAll {H : Type} : List (DataW H) → Nat
  | [] => 0
  | d :: r => uptoBulk d + uptoBulkAll r
def uptoBulkEntries {H : Type} : List (Lit × DataW H) → Nat
  | [] => 0
  | x :: r => uptoBulkEntry x + uptoBulkEntries r
def uptoBulkEntry {H : Type} : Lit × DataW H → Nat
  | (.string bytes, d) => bytes.length + uptoBulk d + 1
  | (_, d) => uptoBulk d + 1
 end
def uptoSmall : (H : Type) → List (DataW H) → Bool := fun _ ds => decide (uptoBulkAll ds ≤ 1048576)
def OpenSpec.upto (s : _root_.Go.ChangeSpec) : _root_.Go.OpenSpec := { _root_.Go.OpenSpec.ofChange s with cond := some uptoSmall }

/-- 'oxbowlaw07.BatchPuts', WHERE WHAT IT READS IS OF BULK AT MOST 1048576: true; the input reads as it did. -/
def batchPutsUptoRow : OpenClaim := { program := "ytdhnkalkfipmhaa", sum := "834122b8408a754d4f362d0ab997f16b20e36411f4fcd5e2bc8c8dabda85bf5d", func := "oxbow/oxbowlaw07.BatchPuts", spec := "batchPuts", inPlace := ["internal/abi.NoEscape"], apart := false, narrowed := true }
def BatchPutsUptoSaid : Prop := batchPutsUptoRow.holds Try.pinned (OpenSpec.upto batchPutsSpec)

/-- 'oxbowlaw07.BatchNumbers', WHERE WHAT IT READS IS OF BULK AT MOST 1048576: true; the input reads as it did. -/
def batchNumbersUptoRow : OpenClaim := { program := "ytdhnkalkfipmhaa", sum := "834122b8408a754d4f362d0ab997f16b20e36411f4fcd5e2bc8c8dabda85bf5d", func := "oxbow/oxbowlaw07.BatchNumbers", spec := "batchNumbers", inPlace := ["internal/abi.NoEscape"], apart := false, narrowed := true }
def BatchNumbersUptoSaid : Prop := batchNumbersUptoRow.holds Try.pinned (OpenSpec.upto batchNumbersSpec)

/-- 'oxbowlaw06.SkipPuts', WHERE WHAT IT READS IS OF BULK AT MOST 1048576: true; the input reads as it did. -/
def skipPutsUptoRow : OpenClaim := { program := "ytdhnkalkfipmhaa", sum := "834122b8408a754d4f362d0ab997f16b20e36411f4fcd5e2bc8c8dabda85bf5d", func := "oxbow/oxbowlaw06.SkipPuts", spec := "skipPuts", inPlace := ["internal/bytealg.abigen_runtime_cmpstring"], unfollowed := true, recurses := true, apart := false, narrowed := true }
def SkipPutsUptoSaid : Prop := skipPutsUptoRow.holds Try.pinned (OpenSpec.upto skipPutsSpec)

/-- 'oxbowlaw06.SkipGets', WHERE WHAT IT READS IS OF BULK AT MOST 1048576: true; the input reads as it did. -/
def skipGetsUptoRow : OpenClaim := { program := "ytdhnkalkfipmhaa", sum := "834122b8408a754d4f362d0ab997f16b20e36411f4fcd5e2bc8c8dabda85bf5d", func := "oxbow/oxbowlaw06.SkipGets", spec := "skipGets", inPlace := ["internal/bytealg.abigen_runtime_cmpstring"], unfollowed := true, recurses := true, apart := false, narrowed := true }
def SkipGetsUptoSaid : Prop := skipGetsUptoRow.holds Try.pinned (OpenSpec.upto skipGetsSpec)

/-- 'oxbowlaw06.SkipGood', WHERE WHAT IT READS IS OF BULK AT MOST 1048576: true; the input reads as it did. -/
def skipGoodUptoRow : OpenClaim := { program := "ytdhnkalkfipmhaa", sum := "834122b8408a754d4f362d0ab997f16b20e36411f4fcd5e2bc8c8dabda85bf5d", func := "oxbow/oxbowlaw06.SkipGood", spec := "skipGood", inPlace := ["internal/bytealg.abigen_runtime_cmpstring"], unfollowed := true, recurses := true, apart := false, narrowed := true }
def SkipGoodUptoSaid : Prop := skipGoodUptoRow.holds Try.pinned (OpenSpec.upto skipGoodSpec)

/-- 'oxbowlaw07.BatchGets', WHERE WHAT IT READS IS OF BULK AT MOST 1048576: true; the input reads as it did. -/
def batchGetsUptoRow : OpenClaim := { program := "ytdhnkalkfipmhaa", sum := "834122b8408a754d4f362d0ab997f16b20e36411f4fcd5e2bc8c8dabda85bf5d", func := "oxbow/oxbowlaw07.BatchGets", spec := "batchGets", inPlace := ["internal/abi.NoEscape"], unfollowed := true, recurses := true, apart := false, narrowed := true }
def BatchGetsUptoSaid : Prop := batchGetsUptoRow.holds Try.pinned (OpenSpec.upto batchGetsSpec)

/-- 'oxbowlaw07.BatchBack', WHERE WHAT IT READS IS OF BULK AT MOST 1048576: true; the input reads as it did. -/
def batchBackUptoRow : OpenClaim := { program := "ytdhnkalkfipmhaa", sum := "834122b8408a754d4f362d0ab997f16b20e36411f4fcd5e2bc8c8dabda85bf5d", func := "oxbow/oxbowlaw07.BatchBack", spec := "batchBack", inPlace := ["internal/abi.NoEscape"], unfollowed := true, recurses := true, apart := false, narrowed := true }
def BatchBackUptoSaid : Prop := batchBackUptoRow.holds Try.pinned (OpenSpec.upto batchBackSpec)

/-- 'oxbowlaw07.BatchCuts', WHERE WHAT IT READS IS OF BULK AT MOST 1048576: true; the input reads as it did. -/
def batchCutsUptoRow : OpenClaim := { program := "ytdhnkalkfipmhaa", sum := "834122b8408a754d4f362d0ab997f16b20e36411f4fcd5e2bc8c8dabda85bf5d", func := "oxbow/oxbowlaw07.BatchCuts", spec := "batchCuts", inPlace := ["internal/abi.NoEscape"], unfollowed := true, recurses := true, apart := false, narrowed := true }
def BatchCutsUptoSaid : Prop := batchCutsUptoRow.holds Try.pinned (OpenSpec.upto batchCutsSpec)

end Rows
end Go.Proofs.Ytdhnkalkfipmhaa
