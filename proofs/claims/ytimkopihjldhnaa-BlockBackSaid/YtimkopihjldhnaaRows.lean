/-
  No cell of these rows narrows 'for every input' (looked for: loops, veiled, ifaces, maps, wideKeys, modest, calm, conditions, laid).
  DERIVED. THE GIVEN ROWS OF THIS SEAT. 7 by the template 'for every input the law returns true; each argument reads behind the call as it read before'; 0 by the template 'total and deterministic' (their statements: YtimkopihjldhnaaTotals.lean).
  GIVEN WITH THE SEED: the statements are not yours to turn. If you find one false, say at which input.
  Laid BY PROGRAM, IN A SANDBOX (cutbox-rows.mjs): the forced cells as the released guide's own fill.sh prints them over the translation f1a32d582e7e1717… (all of the seat's roots in one cut). By AI agents, Wed Nov 11 2026. No macro, syntax, notation, axiom, sorry.
-/
import Derived.Test.YtimkopihjldhnaaChecked
import GoSem.Claim
import GoSem.ClaimJoined
import GoSem.ClaimMapViews
import Derived.JoinedTies
import Derived.KernelRfl
namespace Go.Proofs.Ytimkopihjldhnaa
/- THE CELL 'sum', in the pinned program and in every row, IS THE sha256 OF THE DUMP (.gsa) THAT YtimkopihjldhnaaProg.lean LOADS. Nothing in Lean hashes anything: it is a label: what it is worth is what the hold of that sum in a sandbox is worth. -/
noncomputable def Try.pinned : Pinned := { name := "ytimkopihjldhnaa", sum := "f1a32d582e7e1717f1400ca2b28a103f10322f2e643a94ae9b316e656cb4eb5c", checked := Try.checked }
namespace Rows
def none {H : Type} : Left H := { results := [], args := [] }

/-- 'oxbowlaw10.BlockOrdered': WHATEVER THE INPUT: true; the input reads as it did. -/
def blockOrderedSpec : ChangeSpec := { name := "blockOrdered", fn := fun _ => fun
  | [d] => { results := [.lit (.bool true)], args := [d] }
  | _ => none }
def blockOrderedRow : OpenClaim := { program := "ytimkopihjldhnaa", sum := "f1a32d582e7e1717f1400ca2b28a103f10322f2e643a94ae9b316e656cb4eb5c", func := "oxbow/oxbowlaw10.BlockOrdered", spec := "blockOrdered", inPlace := ["internal/bytealg.abigen_runtime_cmpstring", "internal/abi.NoEscape"], apart := false }
def BlockOrderedSaid : Prop := blockOrderedRow.holds Try.pinned (OpenSpec.ofChange blockOrderedSpec)

/-- ITS FALSE NEIGHBOUR: 'it returns false'. Refute it at one input. -/
def blockOrderedWrong : ChangeSpec := { name := "blockOrdered", fn := fun _ => fun
  | [d] => { results := [.lit (.bool false)], args := [d] }
  | _ => none }
def BlockOrderedWrongFalsely : Prop := blockOrderedRow.holds Try.pinned (OpenSpec.ofChange blockOrderedWrong)

/-- 'oxbowlaw10.BlockBuilds': WHATEVER THE INPUT: true; the input reads as it did. -/
def blockBuildsSpec : ChangeSpec := { name := "blockBuilds", fn := fun _ => fun
  | [d1, d2] => { results := [.lit (.bool true)], args := [d1, d2] }
  | _ => none }
def blockBuildsRow : OpenClaim := { program := "ytimkopihjldhnaa", sum := "f1a32d582e7e1717f1400ca2b28a103f10322f2e643a94ae9b316e656cb4eb5c", func := "oxbow/oxbowlaw10.BlockBuilds", spec := "blockBuilds", inPlace := ["internal/bytealg.abigen_runtime_cmpstring", "internal/abi.NoEscape"], apart := false }
def BlockBuildsSaid : Prop := blockBuildsRow.holds Try.pinned (OpenSpec.ofChange blockBuildsSpec)

/-- ITS FALSE NEIGHBOUR: 'it returns false'. Refute it at one input. -/
def blockBuildsWrong : ChangeSpec := { name := "blockBuilds", fn := fun _ => fun
  | [d1, d2] => { results := [.lit (.bool false)], args := [d1, d2] }
  | _ => none }
def BlockBuildsWrongFalsely : Prop := blockBuildsRow.holds Try.pinned (OpenSpec.ofChange blockBuildsWrong)

/-- 'oxbowlaw10.BlockShared': WHATEVER THE INPUT: true; the input reads as it did. -/
def blockSharedSpec : ChangeSpec := { name := "blockShared", fn := fun _ => fun
  | [d1, d2] => { results := [.lit (.bool true)], args := [d1, d2] }
  | _ => none }
def blockSharedRow : OpenClaim := { program := "ytimkopihjldhnaa", sum := "f1a32d582e7e1717f1400ca2b28a103f10322f2e643a94ae9b316e656cb4eb5c", func := "oxbow/oxbowlaw10.BlockShared", spec := "blockShared", inPlace := ["internal/bytealg.abigen_runtime_cmpstring", "internal/abi.NoEscape"], apart := false }
def BlockSharedSaid : Prop := blockSharedRow.holds Try.pinned (OpenSpec.ofChange blockSharedSpec)

/-- ITS FALSE NEIGHBOUR: 'it returns false'. Refute it at one input. -/
def blockSharedWrong : ChangeSpec := { name := "blockShared", fn := fun _ => fun
  | [d1, d2] => { results := [.lit (.bool false)], args := [d1, d2] }
  | _ => none }
def BlockSharedWrongFalsely : Prop := blockSharedRow.holds Try.pinned (OpenSpec.ofChange blockSharedWrong)

/-- 'oxbowlaw10.BlockParses': WHATEVER THE INPUT: true; the input reads as it did. -/
def blockParsesSpec : ChangeSpec := { name := "blockParses", fn := fun _ => fun
  | [d] => { results := [.lit (.bool true)], args := [d] }
  | _ => none }
def blockParsesRow : OpenClaim := { program := "ytimkopihjldhnaa", sum := "f1a32d582e7e1717f1400ca2b28a103f10322f2e643a94ae9b316e656cb4eb5c", func := "oxbow/oxbowlaw10.BlockParses", spec := "blockParses", inPlace := ["internal/bytealg.abigen_runtime_cmpstring", "internal/abi.NoEscape"], unfollowed := true, recurses := true, apart := false }
def BlockParsesSaid : Prop := blockParsesRow.holds Try.pinned (OpenSpec.ofChange blockParsesSpec)

/-- ITS FALSE NEIGHBOUR: 'it returns false'. Refute it at one input. -/
def blockParsesWrong : ChangeSpec := { name := "blockParses", fn := fun _ => fun
  | [d] => { results := [.lit (.bool false)], args := [d] }
  | _ => none }
def BlockParsesWrongFalsely : Prop := blockParsesRow.holds Try.pinned (OpenSpec.ofChange blockParsesWrong)

/-- 'oxbowlaw10.BlockEvery': WHATEVER THE INPUT: true; the input reads as it did. -/
def blockEverySpec : ChangeSpec := { name := "blockEvery", fn := fun _ => fun
  | [d1, d2, d3] => { results := [.lit (.bool true)], args := [d1, d2, d3] }
  | _ => none }
def blockEveryRow : OpenClaim := { program := "ytimkopihjldhnaa", sum := "f1a32d582e7e1717f1400ca2b28a103f10322f2e643a94ae9b316e656cb4eb5c", func := "oxbow/oxbowlaw10.BlockEvery", spec := "blockEvery", inPlace := ["internal/bytealg.abigen_runtime_cmpstring", "internal/abi.NoEscape"], unfollowed := true, recurses := true, apart := false }
def BlockEverySaid : Prop := blockEveryRow.holds Try.pinned (OpenSpec.ofChange blockEverySpec)

/-- ITS FALSE NEIGHBOUR: 'it returns false'. Refute it at one input. -/
def blockEveryWrong : ChangeSpec := { name := "blockEvery", fn := fun _ => fun
  | [d1, d2, d3] => { results := [.lit (.bool false)], args := [d1, d2, d3] }
  | _ => none }
def BlockEveryWrongFalsely : Prop := blockEveryRow.holds Try.pinned (OpenSpec.ofChange blockEveryWrong)

/-- 'oxbowlaw10.BlockFinds': WHATEVER THE INPUT: true; the input reads as it did. -/
def blockFindsSpec : ChangeSpec := { name := "blockFinds", fn := fun _ => fun
  | [d1, d2, d3] => { results := [.lit (.bool true)], args := [d1, d2, d3] }
  | _ => none }
def blockFindsRow : OpenClaim := { program := "ytimkopihjldhnaa", sum := "f1a32d582e7e1717f1400ca2b28a103f10322f2e643a94ae9b316e656cb4eb5c", func := "oxbow/oxbowlaw10.BlockFinds", spec := "blockFinds", inPlace := ["internal/bytealg.abigen_runtime_cmpstring", "internal/abi.NoEscape"], unfollowed := true, recurses := true, apart := false }
def BlockFindsSaid : Prop := blockFindsRow.holds Try.pinned (OpenSpec.ofChange blockFindsSpec)

/-- ITS FALSE NEIGHBOUR: 'it returns false'. Refute it at one input. -/
def blockFindsWrong : ChangeSpec := { name := "blockFinds", fn := fun _ => fun
  | [d1, d2, d3] => { results := [.lit (.bool false)], args := [d1, d2, d3] }
  | _ => none }
def BlockFindsWrongFalsely : Prop := blockFindsRow.holds Try.pinned (OpenSpec.ofChange blockFindsWrong)

/-- 'oxbowlaw10.BlockBack': WHATEVER THE INPUT: true; the input reads as it did. -/
def blockBackSpec : ChangeSpec := { name := "blockBack", fn := fun _ => fun
  | [d1, d2] => { results := [.lit (.bool true)], args := [d1, d2] }
  | _ => none }
def blockBackRow : OpenClaim := { program := "ytimkopihjldhnaa", sum := "f1a32d582e7e1717f1400ca2b28a103f10322f2e643a94ae9b316e656cb4eb5c", func := "oxbow/oxbowlaw10.BlockBack", spec := "blockBack", inPlace := ["internal/bytealg.abigen_runtime_cmpstring", "internal/abi.NoEscape"], unfollowed := true, recurses := true, apart := false }
def BlockBackSaid : Prop := blockBackRow.holds Try.pinned (OpenSpec.ofChange blockBackSpec)

/-- ITS FALSE NEIGHBOUR: 'it returns false'. Refute it at one input. -/
def blockBackWrong : ChangeSpec := { name := "blockBack", fn := fun _ => fun
  | [d1, d2] => { results := [.lit (.bool false)], args := [d1, d2] }
  | _ => none }
def BlockBackWrongFalsely : Prop := blockBackRow.holds Try.pinned (OpenSpec.ofChange blockBackWrong)

/- THE SECOND FORM. 'bulk': how many values and letters a reading holds, each counted each time it is reached (what is shared counts as often as it is met; a slice's spare places count too). A statement '..UptoSaid' is the law's where the arguments, and the package variables that the reading takes, are together of bulk at most 1048576: NARROWER than '..Said'. Prove '..Said' where nothing that the law and all that it calls make is longer than what came in: it says more and counts as full. Else prove '..UptoSaid'. A law counts once. -/
mutual
def uptoBulk {H : Type} : DataW H → Nat
  | .lit (.string bytes) => bytes.length + 1
  | .lit _ => 1
  | .nil => 1
  | .ptr d => uptoBulk d + 1
  | .slice elems spare => uptoBulkAll elems + uptoBulkAll spare + 1
  | .agg parts => uptoBulkAll parts + 1
  | .iface _ d => uptoBulk d + 1
  | .map entries => uptoBulkEntries entries + 1
  | .held _ => 1
def uptoBulkAll {H : Type} : List (DataW H) → Nat
  | [] => 0
  | d :: r => uptoBulk d + uptoBulkAll r
def uptoBulkEntries {H : Type} : List (Lit × DataW H) → Nat
  | [] => 0
  | x :: r => uptoBulkEntry x + uptoBulkEntries r
def uptoBulkEntry {H : Type} : Lit × DataW H → Nat
  | (.string bytes, d) => bytes.length + uptoBulk d + 1
  | (_, d) => uptoBulk d + 1
 end
def uptoSmall : (H : Type) → List (DataW H) → Bool := fun _ ds => decide (uptoBulkAll ds ≤ 1048576)
def OpenSpec.upto (s : _root_.Go.ChangeSpec) : _root_.Go.OpenSpec := { _root_.Go.OpenSpec.ofChange s with cond := some uptoSmall }

/-- 'oxbowlaw10.BlockOrdered', WHERE WHAT IT READS IS OF BULK AT MOST 1048576: true; the input reads as it did. -/
def blockOrderedUptoRow : OpenClaim := { program := "ytimkopihjldhnaa", sum := "f1a32d582e7e1717f1400ca2b28a103f10322f2e643a94ae9b316e656cb4eb5c", func := "oxbow/oxbowlaw10.BlockOrdered", spec := "blockOrdered", inPlace := ["internal/bytealg.abigen_runtime_cmpstring", "internal/abi.NoEscape"], apart := false, narrowed := true }
def BlockOrderedUptoSaid : Prop := blockOrderedUptoRow.holds Try.pinned (OpenSpec.upto blockOrderedSpec)

/-- 'oxbowlaw10.BlockBuilds', WHERE WHAT IT READS IS OF BULK AT MOST 1048576: true; the input reads as it did. -/
def blockBuildsUptoRow : OpenClaim := { program := "ytimkopihjldhnaa", sum := "f1a32d582e7e1717f1400ca2b28a103f10322f2e643a94ae9b316e656cb4eb5c", func := "oxbow/oxbowlaw10.BlockBuilds", spec := "blockBuilds", inPlace := ["internal/bytealg.abigen_runtime_cmpstring", "internal/abi.NoEscape"], apart := false, narrowed := true }
def BlockBuildsUptoSaid : Prop := blockBuildsUptoRow.holds Try.pinned (OpenSpec.upto blockBuildsSpec)

/-- 'oxbowlaw10.BlockShared', WHERE WHAT IT READS IS OF BULK AT MOST 1048576: true; the input reads as it did. -/
def blockSharedUptoRow : OpenClaim := { program := "ytimkopihjldhnaa", sum := "f1a32d582e7e1717f1400ca2b28a103f10322f2e643a94ae9b316e656cb4eb5c", func := "oxbow/oxbowlaw10.BlockShared", spec := "blockShared", inPlace := ["internal/bytealg.abigen_runtime_cmpstring", "internal/abi.NoEscape"], apart := false, narrowed := true }
def BlockSharedUptoSaid : Prop := blockSharedUptoRow.holds Try.pinned (OpenSpec.upto blockSharedSpec)

/-- 'oxbowlaw10.BlockParses', WHERE WHAT IT READS IS OF BULK AT MOST 1048576: true; the input reads as it did. -/
def blockParsesUptoRow : OpenClaim := { program := "ytimkopihjldhnaa", sum := "f1a32d582e7e1717f1400ca2b28a103f10322f2e643a94ae9b316e656cb4eb5c", func := "oxbow/oxbowlaw10.BlockParses", spec := "blockParses", inPlace := ["internal/bytealg.abigen_runtime_cmpstring", "internal/abi.NoEscape"], unfollowed := true, recurses := true, apart := false, narrowed := true }
def BlockParsesUptoSaid : Prop := blockParsesUptoRow.holds Try.pinned (OpenSpec.upto blockParsesSpec)

/-- 'oxbowlaw10.BlockEvery', WHERE WHAT IT READS IS OF BULK AT MOST 1048576: true; the input reads as it did. -/
def blockEveryUptoRow : OpenClaim := { program := "ytimkopihjldhnaa", sum := "f1a32d582e7e1717f1400ca2b28a103f10322f2e643a94ae9b316e656cb4eb5c", func := "oxbow/oxbowlaw10.BlockEvery", spec := "blockEvery", inPlace := ["internal/bytealg.abigen_runtime_cmpstring", "internal/abi.NoEscape"], unfollowed := true, recurses := true, apart := false, narrowed := true }
def BlockEveryUptoSaid : Prop := blockEveryUptoRow.holds Try.pinned (OpenSpec.upto blockEverySpec)

/-- 'oxbowlaw10.BlockFinds', WHERE WHAT IT READS IS OF BULK AT MOST 1048576: true; the input reads as it did. -/
def blockFindsUptoRow : OpenClaim := { program := "ytimkopihjldhnaa", sum := "f1a32d582e7e1717f1400ca2b28a103f10322f2e643a94ae9b316e656cb4eb5c", func := "oxbow/oxbowlaw10.BlockFinds", spec := "blockFinds", inPlace := ["internal/bytealg.abigen_runtime_cmpstring", "internal/abi.NoEscape"], unfollowed := true, recurses := true, apart := false, narrowed := true }
def BlockFindsUptoSaid : Prop := blockFindsUptoRow.holds Try.pinned (OpenSpec.upto blockFindsSpec)

/-- 'oxbowlaw10.BlockBack', WHERE WHAT IT READS IS OF BULK AT MOST 1048576: true; the input reads as it did. -/
def blockBackUptoRow : OpenClaim := { program := "ytimkopihjldhnaa", sum := "f1a32d582e7e1717f1400ca2b28a103f10322f2e643a94ae9b316e656cb4eb5c", func := "oxbow/oxbowlaw10.BlockBack", spec := "blockBack", inPlace := ["internal/bytealg.abigen_runtime_cmpstring", "internal/abi.NoEscape"], unfollowed := true, recurses := true, apart := false, narrowed := true }
def BlockBackUptoSaid : Prop := blockBackUptoRow.holds Try.pinned (OpenSpec.upto blockBackSpec)

end Rows
end Go.Proofs.Ytimkopihjldhnaa
