/- Plain facts on filters: no program in sight. -/
import Derived.Test.YtfeaacjacbljfaaFrameP
namespace Go.Proofs.Ytfeaacjacbljfaa.Mp
open B Fp
set_option linter.unusedVariables false

/-- which bits a key has -/
def plsN (key : List UInt8) (n s : Nat) : List Nat := (List.range n).map fun i => (sum key + i * sum (120 :: key)) % s
def pls (key : List UInt8) (p s : Int) : List Nat := if p < 1 ∨ 8 < p ∨ s < 1 ∨ 16777216 < s then [] else plsN key p.toNat s.toNat
theorem plsN_len (key : List UInt8) (n s : Nat) : (plsN key n s).length = n := by simp [plsN]
theorem plsN_lt (key : List UInt8) (n s : Nat) (hs : 0 < s) : ∀ p ∈ plsN key n s, p < s := by
  intro p hp
  simp only [plsN, List.mem_map] at hp
  obtain ⟨i, _, rfl⟩ := hp
  exact Nat.mod_lt _ hs
theorem pls_bad {key : List UInt8} {p s : Int} (h : p < 1 ∨ 8 < p ∨ s < 1 ∨ 16777216 < s) : pls key p s = [] := if_pos h
theorem pls_ok {key : List UInt8} {n s : Nat} (h1 : 1 ≤ n) (h2 : n ≤ 8) (h3 : 1 ≤ s) (h4 : s ≤ 16777216) : pls key n s = plsN key n s := by
  unfold pls
  rw [if_neg (by omega)]
  rfl
theorem pls_len (key : List UInt8) (p s : Int) : (pls key p s).length ≤ 8 := by
  unfold pls
  split
  · simp
  · rw [plsN_len]; omega
theorem pls_lt (key : List UInt8) (p s : Int) : ∀ q ∈ pls key p s, (q : Int) < s := by
  intro q hq
  unfold pls at hq
  split at hq
  · simp at hq
  · have := plsN_lt key _ _ (show 0 < s.toNat by omega) q hq
    omega
end Go.Proofs.Ytfeaacjacbljfaa.Mp
