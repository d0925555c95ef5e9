/-
  No cell of these rows narrows 'for every input' (looked for: loops, veiled, ifaces, maps, wideKeys, modest, calm, conditions, laid).
  DERIVED. THE GIVEN ROWS OF THIS SEAT. 6 by the template 'for every input the law returns true; each argument reads behind the call as it read before'; 0 by the template 'total and deterministic' (their statements: YtajfalffpcamhaaTotals.lean).
  GIVEN WITH THE SEED: the statements are not yours to turn. If you find one false, say at which input.
  Laid BY PROGRAM, IN A SANDBOX (cutbox-rows.mjs): the forced cells as the released guide's own fill.sh prints them over the translation 9ddf7e92ecf7c44c… (all of the seat's roots in one cut). By AI agents, Wed Nov 11 2026. No macro, syntax, notation, axiom, sorry.
-/
import Derived.Test.YtajfalffpcamhaaChecked
import GoSem.Claim
import GoSem.ClaimJoined
import GoSem.ClaimMapViews
import Derived.JoinedTies
import Derived.KernelRfl
namespace Go.Proofs.Ytajfalffpcamhaa
/- THE CELL 'sum', in the pinned program and in every row, IS THE sha256 OF THE DUMP (.gsa) THAT YtajfalffpcamhaaProg.lean LOADS. Nothing in Lean hashes anything: it is a label: what it is worth is what the hold of that sum in a sandbox is worth. -/
noncomputable def Try.pinned : Pinned := { name := "ytajfalffpcamhaa", sum := "9ddf7e92ecf7c44c2c45329d413209a0493a7131f327226405ba6f85db82f97e", checked := Try.checked }
namespace Rows
def none {H : Type} : Left H := { results := [], args := [] }

/-- 'oxbowlaw11.TableBuilds': WHATEVER THE INPUT: true; the input reads as it did. -/
def tableBuildsSpec : ChangeSpec := { name := "tableBuilds", fn := fun _ => fun
  | [d1, d2, d3] => { results := [.lit (.bool true)], args := [d1, d2, d3] }
  | _ => none }
def tableBuildsRow : OpenClaim := { program := "ytajfalffpcamhaa", sum := "9ddf7e92ecf7c44c2c45329d413209a0493a7131f327226405ba6f85db82f97e", func := "oxbow/oxbowlaw11.TableBuilds", spec := "tableBuilds", inPlace := ["internal/bytealg.abigen_runtime_cmpstring", "internal/abi.NoEscape"], unfollowed := true, recurses := true, apart := false }
def TableBuildsSaid : Prop := tableBuildsRow.holds Try.pinned (OpenSpec.ofChange tableBuildsSpec)

/-- ITS FALSE NEIGHBOUR: 'it returns false'. Refute it at one input. -/
def tableBuildsWrong : ChangeSpec := { name := "tableBuilds", fn := fun _ => fun
  | [d1, d2, d3] => { results := [.lit (.bool false)], args := [d1, d2, d3] }
  | _ => none }
def TableBuildsWrongFalsely : Prop := tableBuildsRow.holds Try.pinned (OpenSpec.ofChange tableBuildsWrong)

/-- 'oxbowlaw11.TableOpens': WHATEVER THE INPUT: true; the input reads as it did. -/
def tableOpensSpec : ChangeSpec := { name := "tableOpens", fn := fun _ => fun
  | [d1, d2, d3] => { results := [.lit (.bool true)], args := [d1, d2, d3] }
  | _ => none }
def tableOpensRow : OpenClaim := { program := "ytajfalffpcamhaa", sum := "9ddf7e92ecf7c44c2c45329d413209a0493a7131f327226405ba6f85db82f97e", func := "oxbow/oxbowlaw11.TableOpens", spec := "tableOpens", inPlace := ["internal/bytealg.abigen_runtime_cmpstring", "internal/abi.NoEscape"], unfollowed := true, recurses := true, apart := false }
def TableOpensSaid : Prop := tableOpensRow.holds Try.pinned (OpenSpec.ofChange tableOpensSpec)

/-- ITS FALSE NEIGHBOUR: 'it returns false'. Refute it at one input. -/
def tableOpensWrong : ChangeSpec := { name := "tableOpens", fn := fun _ => fun
  | [d1, d2, d3] => { results := [.lit (.bool false)], args := [d1, d2, d3] }
  | _ => none }
def TableOpensWrongFalsely : Prop := tableOpensRow.holds Try.pinned (OpenSpec.ofChange tableOpensWrong)

/-- 'oxbowlaw11.TableReads': WHATEVER THE INPUT: true; the input reads as it did. -/
def tableReadsSpec : ChangeSpec := { name := "tableReads", fn := fun _ => fun
  | [d1, d2, d3] => { results := [.lit (.bool true)], args := [d1, d2, d3] }
  | _ => none }
def tableReadsRow : OpenClaim := { program := "ytajfalffpcamhaa", sum := "9ddf7e92ecf7c44c2c45329d413209a0493a7131f327226405ba6f85db82f97e", func := "oxbow/oxbowlaw11.TableReads", spec := "tableReads", inPlace := ["internal/bytealg.abigen_runtime_cmpstring", "internal/abi.NoEscape"], unfollowed := true, recurses := true, apart := false }
def TableReadsSaid : Prop := tableReadsRow.holds Try.pinned (OpenSpec.ofChange tableReadsSpec)

/-- ITS FALSE NEIGHBOUR: 'it returns false'. Refute it at one input. -/
def tableReadsWrong : ChangeSpec := { name := "tableReads", fn := fun _ => fun
  | [d1, d2, d3] => { results := [.lit (.bool false)], args := [d1, d2, d3] }
  | _ => none }
def TableReadsWrongFalsely : Prop := tableReadsRow.holds Try.pinned (OpenSpec.ofChange tableReadsWrong)

/-- 'oxbowlaw11.TableBack': WHATEVER THE INPUT: true; the input reads as it did. -/
def tableBackSpec : ChangeSpec := { name := "tableBack", fn := fun _ => fun
  | [d1, d2, d3] => { results := [.lit (.bool true)], args := [d1, d2, d3] }
  | _ => none }
def tableBackRow : OpenClaim := { program := "ytajfalffpcamhaa", sum := "9ddf7e92ecf7c44c2c45329d413209a0493a7131f327226405ba6f85db82f97e", func := "oxbow/oxbowlaw11.TableBack", spec := "tableBack", inPlace := ["internal/bytealg.abigen_runtime_cmpstring", "internal/abi.NoEscape"], unfollowed := true, recurses := true, apart := false }
def TableBackSaid : Prop := tableBackRow.holds Try.pinned (OpenSpec.ofChange tableBackSpec)

/-- ITS FALSE NEIGHBOUR: 'it returns false'. Refute it at one input. -/
def tableBackWrong : ChangeSpec := { name := "tableBack", fn := fun _ => fun
  | [d1, d2, d3] => { results := [.lit (.bool false)], args := [d1, d2, d3] }
  | _ => none }
def TableBackWrongFalsely : Prop := tableBackRow.holds Try.pinned (OpenSpec.ofChange tableBackWrong)

/-- 'oxbowlaw11.TableBits': WHATEVER THE INPUT: true; the input reads as it did. -/
def tableBitsSpec : ChangeSpec := { name := "tableBits", fn := fun _ => fun
  | [d1, d2, d3] => { results := [.lit (.bool true)], args := [d1, d2, d3] }
  | _ => none }
def tableBitsRow : OpenClaim := { program := "ytajfalffpcamhaa", sum := "9ddf7e92ecf7c44c2c45329d413209a0493a7131f327226405ba6f85db82f97e", func := "oxbow/oxbowlaw11.TableBits", spec := "tableBits", inPlace := ["internal/bytealg.abigen_runtime_cmpstring", "internal/abi.NoEscape"], unfollowed := true, recurses := true, apart := false }
def TableBitsSaid : Prop := tableBitsRow.holds Try.pinned (OpenSpec.ofChange tableBitsSpec)

/-- ITS FALSE NEIGHBOUR: 'it returns false'. Refute it at one input. -/
def tableBitsWrong : ChangeSpec := { name := "tableBits", fn := fun _ => fun
  | [d1, d2, d3] => { results := [.lit (.bool false)], args := [d1, d2, d3] }
  | _ => none }
def TableBitsWrongFalsely : Prop := tableBitsRow.holds Try.pinned (OpenSpec.ofChange tableBitsWrong)

/-- 'oxbowlaw11.TableNil': WHATEVER THE INPUT: true; the input reads as it did. -/
def tableNilSpec : ChangeSpec := { name := "tableNil", fn := fun _ => fun
  | [d1, d2] => { results := [.lit (.bool true)], args := [d1, d2] }
  | _ => none }
def tableNilRow : OpenClaim := { program := "ytajfalffpcamhaa", sum := "9ddf7e92ecf7c44c2c45329d413209a0493a7131f327226405ba6f85db82f97e", func := "oxbow/oxbowlaw11.TableNil", spec := "tableNil", inPlace := ["internal/bytealg.abigen_runtime_cmpstring", "internal/abi.NoEscape"], unfollowed := true, recurses := true, apart := false }
def TableNilSaid : Prop := tableNilRow.holds Try.pinned (OpenSpec.ofChange tableNilSpec)

/-- ITS FALSE NEIGHBOUR: 'it returns false'. Refute it at one input. -/
def tableNilWrong : ChangeSpec := { name := "tableNil", fn := fun _ => fun
  | [d1, d2] => { results := [.lit (.bool false)], args := [d1, d2] }
  | _ => none }
def TableNilWrongFalsely : Prop := tableNilRow.holds Try.pinned (OpenSpec.ofChange tableNilWrong)

/- THE SECOND FORM. 'bulk': how many values and letters a reading holds, each counted each time it is reached (what is shared counts as often as it is met; a slice's spare places count too). A statement '..UptoSaid' is the law's where the arguments, and the package variables that the reading takes, are together of bulk at most 1048576: NARROWER than '..Said'. Prove '..Said' where nothing that the law and all that it calls make is longer than what came in: it says more and counts as full. Else prove '..UptoSaid'. A law counts once. -/
mutual
def uptoBulk {H : Type} : DataW H → Nat
  | .lit (.string bytes) => bytes.length + 1
  | .lit _ => 1
  | .nil => 1
  | .ptr d => uptoBulk d + 1
  | .slice elems spare => uptoBulkAll elems + uptoBulkAll spare + 1
  | .agg parts => uptoBulkAll parts + 1
  | .iface _ d => uptoBulk d + 1
  | .map entries => uptoBulkEntries entries + 1
  | .held _ => 1
def uptoBulkAll {H : Type} : List (DataW H) → Nat
  | [] => 0
  | d :: r => uptoBulk d + uptoBulkAll r
def uptoBulkEntries {H : Type} : List (Lit × DataW H) → Nat
  | [] => 0
  | x :: r => uptoBulkEntry x + uptoBulkEntries r
def uptoBulkEntry {H : Type} : Lit × DataW H → Nat
  | (.string bytes, d) => bytes.length + uptoBulk d + 1
  | (_, d) => uptoBulk d + 1
 end
def uptoSmall : (H : Type) → List (DataW H) → Bool := fun _ ds => decide (uptoBulkAll ds ≤ 1048576)
def OpenSpec.upto (s : _root_.Go.ChangeSpec) : _root_.Go.OpenSpec := { _root_.Go.OpenSpec.ofChange s with cond := some uptoSmall }

/-- 'oxbowlaw11.TableBuilds', WHERE WHAT IT READS IS OF BULK AT MOST 1048576: true; the input reads as it did. -/
def tableBuildsUptoRow : OpenClaim := { program := "ytajfalffpcamhaa", sum := "9ddf7e92ecf7c44c2c45329d413209a0493a7131f327226405ba6f85db82f97e", func := "oxbow/oxbowlaw11.TableBuilds", spec := "tableBuilds", inPlace := ["internal/bytealg.abigen_runtime_cmpstring", "internal/abi.NoEscape"], unfollowed := true, recurses := true, apart := false, narrowed := true }
def TableBuildsUptoSaid : Prop := tableBuildsUptoRow.holds Try.pinned (OpenSpec.upto tableBuildsSpec)

/-- 'oxbowlaw11.TableOpens', WHERE WHAT IT READS IS OF BULK AT MOST 1048576: true; the input reads as it did. -/
def tableOpensUptoRow : OpenClaim := { program := "ytajfalffpcamhaa", sum := "9ddf7e92ecf7c44c2c45329d413209a0493a7131f327226405ba6f85db82f97e", func := "oxbow/oxbowlaw11.TableOpens", spec := "tableOpens", inPlace := ["internal/bytealg.abigen_runtime_cmpstring", "internal/abi.NoEscape"], unfollowed := true, recurses := true, apart := false, narrowed := true }
def TableOpensUptoSaid : Prop := tableOpensUptoRow.holds Try.pinned (OpenSpec.upto tableOpensSpec)

/-- 'oxbowlaw11.TableReads', WHERE WHAT IT READS IS OF BULK AT MOST 1048576: true; the input reads as it did. -/
def tableReadsUptoRow : OpenClaim := { program := "ytajfalffpcamhaa", sum := "9ddf7e92ecf7c44c2c45329d413209a0493a7131f327226405ba6f85db82f97e", func := "oxbow/oxbowlaw11.TableReads", spec := "tableReads", inPlace := ["internal/bytealg.abigen_runtime_cmpstring", "internal/abi.NoEscape"], unfollowed := true, recurses := true, apart := false, narrowed := true }
def TableReadsUptoSaid : Prop := tableReadsUptoRow.holds Try.pinned (OpenSpec.upto tableReadsSpec)

/-- 'oxbowlaw11.TableBack', WHERE WHAT IT READS IS OF BULK AT MOST 1048576: true; the input reads as it did. -/
def tableBackUptoRow : OpenClaim := { program := "ytajfalffpcamhaa", sum := "9ddf7e92ecf7c44c2c45329d413209a0493a7131f327226405ba6f85db82f97e", func := "oxbow/oxbowlaw11.TableBack", spec := "tableBack", inPlace := ["internal/bytealg.abigen_runtime_cmpstring", "internal/abi.NoEscape"], unfollowed := true, recurses := true, apart := false, narrowed := true }
def TableBackUptoSaid : Prop := tableBackUptoRow.holds Try.pinned (OpenSpec.upto tableBackSpec)

/-- 'oxbowlaw11.TableBits', WHERE WHAT IT READS IS OF BULK AT MOST 1048576: true; the input reads as it did. -/
def tableBitsUptoRow : OpenClaim := { program := "ytajfalffpcamhaa", sum := "9ddf7e92ecf7c44c2c45329d413209a0493a7131f327226405ba6f85db82f97e", func := "oxbow/oxbowlaw11.TableBits", spec := "tableBits", inPlace := ["internal/bytealg.abigen_runtime_cmpstring", "internal/abi.NoEscape"], unfollowed := true, recurses := true, apart := false, narrowed := true }
def TableBitsUptoSaid : Prop := tableBitsUptoRow.holds Try.pinned (OpenSpec.upto tableBitsSpec)

/-- 'oxbowlaw11.TableNil', WHERE WHAT IT READS IS OF BULK AT MOST 1048576: true; the input reads as it did. -/
def tableNilUptoRow : OpenClaim := { program := "ytajfalffpcamhaa", sum := "9ddf7e92ecf7c44c2c45329d413209a0493a7131f327226405ba6f85db82f97e", func := "oxbow/oxbowlaw11.TableNil", spec := "tableNil", inPlace := ["internal/bytealg.abigen_runtime_cmpstring", "internal/abi.NoEscape"], unfollowed := true, recurses := true, apart := false, narrowed := true }
def TableNilUptoSaid : Prop := tableNilUptoRow.holds Try.pinned (OpenSpec.upto tableNilSpec)

end Rows
end Go.Proofs.Ytajfalffpcamhaa
