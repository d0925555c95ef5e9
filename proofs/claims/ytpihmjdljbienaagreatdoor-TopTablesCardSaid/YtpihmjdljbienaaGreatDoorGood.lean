/- The walks of Good: the skip list's, the batch's, the references'. -/
import Derived.Test.YtpihmjdljbienaaGreatDoorRows
import Derived.Test.YtpihmjdljbienaaGreatDoorGa
import Derived.Deep.QuietTactic
import Derived.BigQuiet
namespace Go.Proofs.YtpihmjdljbienaaGreatDoor.Ew
open Go.RowKit
open En B
set_option linter.unusedVariables false

set_option maxHeartbeats 1600000 in
theorem good_any (k : ByteArray) (q : Int) (g : Bool) (v : ByteArray) (u : Int) (w : World) :
    Calls Tryz.prog 34 #[.agg #[.string k, .int .i64 q, .bool g, .string v, .int .i64 u]] w fun e w' => e = .returned (.int .i64 (goodE ⟨k, q, g, v, u⟩)) ∧ Below w.heap.size w w' := by
  obtain ⟨r, hr⟩ : ∃ r, r = goodE ⟨k, q, g, v, u⟩ := ⟨_, rfl⟩
  rw [← hr]
  unfold goodE at hr
  simp only at hr
  have HR := Lib.hid hr
  clear hr
  by_cases c1 : 64 < k.size
  · obtain rfl : r = 5 := by rw [HR.out, if_pos (.inl c1)]
    go_enter Tryz.func34, Tryz.ntmps34
    go_wp2_with fail
    go_ret
    exact ⟨rfl, (Below.refl _ _).alloc (Nat.le_refl _) _⟩
  by_cases c2 : 512 < v.size
  · obtain rfl : r = 5 := by rw [HR.out, if_pos (.inr c2)]
    go_enter Tryz.func34, Tryz.ntmps34
    go_wp2_with fail
    go_ret
    exact ⟨rfl, (Below.refl _ _).alloc (Nat.le_refl _) _⟩
  by_cases c3 : k.size = 0
  · obtain rfl : r = 2 := by rw [HR.out, if_neg (by omega), if_pos (.inl c3)]
    have z3 := toList_nil c3
    clear c3
    go_enter Tryz.func34, Tryz.ntmps34
    go_wp2_with fail
    go_ret
    exact ⟨rfl, (Below.refl _ _).alloc (Nat.le_refl _) _⟩
  have z3 := toList_ne c3
  have c3' : 0 < k.size := by omega
  have e3 : ((k.size : Int) == 0) = false := ef (by omega)
  by_cases c4 : q < 1
  · obtain rfl : r = 2 := by rw [HR.out, if_neg (by omega), if_pos (.inr (.inl c4))]
    go_enter Tryz.func34, Tryz.ntmps34
    go_wp2_with fail
    go_ret
    exact ⟨rfl, (Below.refl _ _).alloc (Nat.le_refl _) _⟩
  by_cases c5 : u < 0
  · obtain rfl : r = 2 := by rw [HR.out, if_neg (by omega), if_pos (.inr (.inr (.inl c5)))]
    go_enter Tryz.func34, Tryz.ntmps34
    go_wp2_with fail
    go_ret
    exact ⟨rfl, (Below.refl _ _).alloc (Nat.le_refl _) _⟩
  cases g with
  | false =>
    obtain rfl : r = 0 := by rw [HR.out, if_neg (by omega), if_neg (by rintro (h | h | h | ⟨h, _⟩) <;> first | omega | cases h)]
    go_enter Tryz.func34, Tryz.ntmps34
    go_wp2_with fail
    go_ret
    exact ⟨rfl, (Below.refl _ _).alloc (Nat.le_refl _) _⟩
  | true =>
  by_cases c6 : v.size = 0
  · have z6 := toList_nil c6
    by_cases c7 : u = 0
    · obtain rfl : r = 0 := by rw [HR.out, if_neg (by omega), if_neg (by rintro (h | h | h | ⟨_, h | h⟩) <;> first | omega | exact h c6 | exact h c7)]
      clear c6
      obtain rfl := c7
      go_enter Tryz.func34, Tryz.ntmps34
      go_wp2_with fail
      go_ret
      exact ⟨rfl, (Below.refl _ _).alloc (Nat.le_refl _) _⟩
    · obtain rfl : r = 2 := by rw [HR.out, if_neg (by omega), if_pos (.inr (.inr (.inr ⟨rfl, .inr c7⟩)))]
      clear c6
      have c8 : 0 < u := by omega
      have c9 : (u != 0) = true := nt c7
      clear c7
      go_enter Tryz.func34, Tryz.ntmps34
      go_wp2_with fail
      go_ret
      exact ⟨rfl, (Below.refl _ _).alloc (Nat.le_refl _) _⟩
  · obtain rfl : r = 2 := by rw [HR.out, if_neg (by omega), if_pos (.inr (.inr (.inr ⟨rfl, .inl c6⟩)))]
    have z6 := toList_ne c6
    have c8 : 0 < v.size := by omega
    go_enter Tryz.func34, Tryz.ntmps34
    go_wp2_with fail
    go_ret
    exact ⟨rfl, (Below.refl _ _).alloc (Nat.le_refl _) _⟩

end Go.Proofs.YtpihmjdljbienaaGreatDoor.Ew
