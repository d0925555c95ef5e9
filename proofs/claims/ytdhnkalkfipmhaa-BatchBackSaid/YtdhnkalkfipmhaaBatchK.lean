/- The walk of layer 7's wakes. -/
import Derived.Test.YtdhnkalkfipmhaaBatchR
import Derived.Test.YtdhnkalkfipmhaaLists
namespace Go.Proofs.Ytdhnkalkfipmhaa.Ew
open Go.RowKit
open En B Vp Vw
set_option linter.unusedVariables false

theorem enc_s (n : Int) (u : Nat) (h : zz n = u) (hu : u < 128) : enc n = str [UInt8.ofNat u] := by unfold enc; rw [h, vb_small hu]
def wk : List Ent := [⟨⟨#[97]⟩, 0, false, ⟨#[120]⟩, 0⟩, ⟨⟨#[98]⟩, 0, true, ⟨#[]⟩, 0⟩]
theorem wk_fits : ∀ e ∈ wk, Fits e := by
  intro e he
  simp only [wk, List.mem_cons, List.not_mem_nil, or_false] at he
  rcases he with rfl | rfl <;> exact ⟨by decide, by decide, by decide, by decide, by decide, by decide⟩
theorem wk_put : putE wk = (⟨#[4, 2, 97, 2, 2, 120, 2, 98, 0]⟩, 0) := by
  have h0 : enc 0 = str [0] := enc_s 0 0 (by decide) (by decide)
  have h1 : enc 1 = str [2] := enc_s 1 2 (by decide) (by decide)
  have h2 : enc 2 = str [4] := enc_s 2 4 (by decide) (by decide)
  have hb : bads wk = 0 := by decide
  unfold putE
  rw [if_neg (by decide), if_neg (by rw [hb]; decide)]
  have e2 : ((wk.length : Nat) : Int) = 2 := rfl
  rw [e2, h2]
  have hi : itemsB wk = [2, 97, 2, 2, 120, 2, 98, 0] := by
    have k1 : (((⟨#[97]⟩ : ByteArray).size : Nat) : Int) = 1 := rfl
    have k2 : (((⟨#[98]⟩ : ByteArray).size : Nat) : Int) = 1 := rfl
    have k3 : (((⟨#[120]⟩ : ByteArray).size : Nat) : Int) = 1 := rfl
    simp only [wk, itemsB, List.flatMap_cons, List.flatMap_nil, itemB, encT, k1, k2, k3, Int.zero_add, h0, h1]
    rfl
  rw [hi]; rfl

set_option maxHeartbeats 400000 in
set_option maxRecDepth 100000 in
theorem wakes7_any (w : World) : Calls Try.prog 14 #[] w fun e w' => e = .returned (.bool true) ∧ Below w.heap.size w w' := by
  have hp := fun a c W hr => bput_any a 2 c wk rfl wk_fits W hr
  rw [wk_put] at hp
  have HP := Lib.hid hp
  clear hp
  go_enter Try.func14, Try.ntmps14
  go_wp2_with fail
  refine (HP.out _ _ _ ?_).mono ?_
  · refine .inr ⟨w.heap.size, 0, rfl, by simp, fun i hi => ?_⟩
    have hc := fun j => cell_of_row (w.alloc (.cells #[.string ⟨#[97]⟩, .int .i64 0, .bool false, .string ⟨#[120]⟩, .int .i64 0, .string ⟨#[98]⟩, .int .i64 0, .bool true, .string ⟨#[]⟩, .int .i64 0] 36)) w.heap.size j _ _ _ (heap_alloc_new _ _)
    obtain rfl | rfl : i = 0 ∨ i = 1 := by omega
    · exact ⟨hc 0, hc 1, hc 2, hc 3, hc 4⟩
    · exact ⟨hc 5, hc 6, hc 7, hc 8, hc 9⟩
  rintro e w1 ⟨rfl, hb1⟩
  have hbz := chain ((Below.refl _ _).alloc (Nat.le_refl _) _) hb1
  go_wp2_with fail
  go_ret
  exact ⟨rfl, hbz⟩
end Go.Proofs.Ytdhnkalkfipmhaa.Ew
