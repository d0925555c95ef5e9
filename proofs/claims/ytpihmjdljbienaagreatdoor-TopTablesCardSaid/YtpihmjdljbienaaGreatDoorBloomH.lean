/- The walk of bloom.Has. -/
import Derived.Test.YtpihmjdljbienaaGreatDoorBloomPl
import Derived.Test.YtpihmjdljbienaaGreatDoorGa
import Derived.Deep.QuietTactic
import Derived.BigQuiet
import Derived.Deep.RegionWith
import Derived.Deep.RegionHeld3
namespace Go.Proofs.YtpihmjdljbienaaGreatDoor.Mw
open Go.RowKit
open Mp Fp B Fw
set_option linter.unusedVariables false

theorem and_bits (y : UInt8) (k : Nat) (hk : k < 8) : (bits .and .u8 (y.toNat : Int) (2 ^ k % 256) == 0) = !(y.toNat.testBit k) := by
  have hp : 2 ^ k < 256 := Nat.lt_of_lt_of_le (Nat.pow_lt_pow_right (by omega) hk) (by decide)
  have e : ((2 : Int) ^ k % 256) = ((2 ^ k : Nat) : Int) := by
    have : ((2 : Int) ^ k) = ((2 ^ k : Nat) : Int) := by rw [Int.natCast_pow]; rfl
    rw [this]
    generalize 2 ^ k = q at hp ⊢
    omega
  rw [e]
  have hy := UInt8.toNat_lt y
  have : ∀ (a : Fin 256) (j : Fin 8), (bits .and .u8 (a.val : Int) ((2 ^ j.val : Nat) : Int) == 0) = !(a.val.testBit j.val) := by decide +kernel
  exact this ⟨y.toNat, hy⟩ ⟨k, hk⟩

theorem keep1 {A : Nat} {v : Value} {w a b : World} (h : a.cell? ⟨A, 0, none⟩ = some v ∧ A < a.heap.size ∧ Below A w a) (k : Below a.heap.size a b) : b.cell? ⟨A, 0, none⟩ = some v ∧ A < b.heap.size ∧ Below A w b :=
  ⟨(k.cell (p := ⟨A, 0, none⟩) h.2.1).trans h.1, Nat.lt_of_lt_of_le h.2.1 k.size, h.2.2.trans (k.mono (Nat.le_of_lt h.2.1))⟩
theorem bn_getD (s : ByteArray) (k : Nat) : (s.data.toList.getD k 0).toNat = bn s k := rfl

end Go.Proofs.YtpihmjdljbienaaGreatDoor.Mw
