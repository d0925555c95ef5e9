/- The walk of layer 10's wakes. -/
import Derived.Test.YtimkopihjldhnaaBlockE
import Derived.Test.YtimkopihjldhnaaLists10
namespace Go.Proofs.Ytimkopihjldhnaa.Ew
open Go.RowKit
open En B Vp Vw
set_option linter.unusedVariables false

theorem enc_s (n : Int) (u : Nat) (h : zz n = u) (hu : u < 128) : enc n = str [UInt8.ofNat u] := by unfold enc; rw [h, vb_small hu]
theorem bts_s (n : Int) (u : Nat) (h : zz n = u) (hu : u < 128) : bts n = [UInt8.ofNat u] := by unfold bts; rw [h, vb_small hu]
def wk10 : List Ent := [⟨⟨#[97, 98]⟩, 1, false, ⟨#[]⟩, 0⟩, ⟨⟨#[97, 99]⟩, 1, false, ⟨#[]⟩, 0⟩]
theorem wk10_fits : ∀ e ∈ wk10, Fits e := by
  intro e he
  simp only [wk10, List.mem_cons, List.not_mem_nil, or_false] at he
  rcases he with rfl | rfl <;> exact ⟨by decide, by decide, by decide, by decide, by decide, by decide⟩
theorem wk10_build : buildE wk10 16 = (⟨#[4, 0, 4, 97, 98, 2, 2, 0, 2, 2, 99, 2, 2, 0]⟩, 0) := by
  have h0 : bts 0 = [0] := bts_s 0 0 (by decide) (by decide)
  have h1 : bts 1 = [2] := bts_s 1 2 (by decide) (by decide)
  have h2 : bts 2 = [4] := bts_s 2 4 (by decide) (by decide)
  have hb : (orderedE wk10).2 = 0 := by decide
  unfold buildE
  rw [if_neg (by decide), if_neg (by decide), if_neg (by rw [hb]; decide)]
  have hx : bytesK (16 : Int).toNat wk10 = [4, 0, 4, 97, 98, 2, 2, 0, 2, 2, 99, 2, 2, 0] := by
    have e2 : ((wk10.length : Nat) : Int) = 2 := rfl
    unfold bytesK
    rw [e2, h2]
    have n0 : nOf (16 : Int).toNat 0 [] ⟨⟨#[97, 98]⟩, 1, false, ⟨#[]⟩, 0⟩ = 0 := by decide
    have n1 : nOf (16 : Int).toNat (0 + 1) [97, 98] ⟨⟨#[97, 99]⟩, 1, false, ⟨#[]⟩, 0⟩ = 1 := by decide
    simp only [wk10, entsB, n0, n1, entB]
    have k0 : (((0 : Nat) : Nat) : Int) = 0 := rfl
    have k1 : (((1 : Nat) : Nat) : Int) = 1 := rfl
    simp only [txt, List.drop_zero, List.length_cons, List.length_nil, Nat.zero_add, List.drop_succ_cons, k0, k1, h0, h1]
    have k2 : (((1 + 1 : Nat) : Nat) : Int) = 2 := rfl
    have k3 : (0 : Int) + 1 = 1 := rfl
    simp only [k2, k3, h1, h2]
    rfl
  rw [hx]; rfl

set_option maxHeartbeats 400000 in
set_option maxRecDepth 100000 in
theorem wakes10_any (w : World) : Calls Try.prog 13 #[] w fun e w' => e = .returned (.bool true) ∧ Below w.heap.size w w' := by
  have hp := fun a c h1 h2 W hr => build_any a 2 c wk10 16 rfl h1 h2 wk10_fits W hr
  rw [wk10_build] at hp
  have HP := Lib.hid hp
  clear hp
  go_enter Try.func13, Try.ntmps13
  go_wp2_with fail
  refine (HP.out _ _ (by decide) (by decide) _ ?_).mono ?_
  · refine .inr ⟨w.heap.size, 0, rfl, by simp, fun i hi => ?_⟩
    have hc := fun j => cell_of_row (w.alloc (.cells #[.string ⟨#[97, 98]⟩, .int .i64 1, .bool false, .string ⟨#[]⟩, .int .i64 0, .string ⟨#[97, 99]⟩, .int .i64 1, .bool false, .string ⟨#[]⟩, .int .i64 0] 45)) w.heap.size j _ _ _ (heap_alloc_new _ _)
    obtain rfl | rfl : i = 0 ∨ i = 1 := by omega
    · exact ⟨hc 0, hc 1, hc 2, hc 3, hc 4⟩
    · exact ⟨hc 5, hc 6, hc 7, hc 8, hc 9⟩
  rintro e w1 ⟨rfl, hb1⟩
  have hbz := chain ((Below.refl _ _).alloc (Nat.le_refl _) _) hb1
  go_wp2_with fail
  go_ret
  exact ⟨rfl, hbz⟩
end Go.Proofs.Ytimkopihjldhnaa.Ew
