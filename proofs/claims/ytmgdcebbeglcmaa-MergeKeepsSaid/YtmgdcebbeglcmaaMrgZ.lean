/- What layer 13's document fixes. -/
import Derived.Test.YtmgdcebbeglcmaaMrgW
import Derived.Test.YtmgdcebbeglcmaaMrgY
namespace Go.Proofs.Ytmgdcebbeglcmaa.Ew
open Go.RowKit
open En B
set_option linter.unusedVariables false

theorem own_inp {w : World} {B : Nat} {T : TypeId} {p : Option Addr} {d : Nat} {R : List Ent} (h : w.ownsRow B T 5 (.slice p R.length d) R.length (ecells R)) : R.length ≤ d ∧ d ≤ 9223372036854775807 ∧ ERow w p R.length (fun i => R.getD i ent0) := by
  have h3 := (own_erow h).2.2
  obtain ⟨m, hm⟩ : ∃ m, m = R.length := ⟨_, rfl⟩
  rw [← hm] at h h3 ⊢
  clear hm
  rcases h.2 with ⟨hv, h0⟩ | ⟨g, cap, cur, hv, _, _, hn, hm, _⟩
  · cases hv; exact ⟨by omega, by omega, h3⟩
  · cases hv; exact ⟨hn, by simpa [maxLen] using hm, h3⟩
def wk1 : Ent := ⟨⟨#[97]⟩, 3, true, ⟨#[]⟩, 0⟩
def wk2 : Ent := ⟨⟨#[98]⟩, 1, false, ⟨#[121]⟩, 0⟩
def wk3 : Ent := ⟨⟨#[97]⟩, 2, false, ⟨#[120]⟩, 0⟩
theorem wk_mrg : mpAll [] [wk1, wk2, wk3] = [wk1, wk3, wk2] := by rfl
theorem wk_v2 : (visE [wk1, wk3, wk2] 2 0).length = 2 := by decide
theorem wk_v3 : (visE [wk1, wk3, wk2] 3 0).length = 1 := by decide
theorem wk_c1 : (compE [wk1, wk3, wk2] [] 0 true).length = 1 := by decide
theorem wk_c2 : (compE [wk1, wk3, wk2] [2] 0 true).length = 3 := by decide
theorem sorted2 {x y : Ent} (h : lessE x y = true) : Sorted [x, y] := fun i j hij hj => by
  have h1 : i = 0 := by simp at hj; omega
  have h2 : j = 1 := by simp at hj; omega
  subst h1 h2; exact h
theorem wk_sorted : Sorted [wk1, wk3, wk2] := by rw [← wk_mrg]; exact mpAll_sorted _ sorted_nil
theorem wk_alive : aliveE wk3 9 = true := by decide

theorem own_mk {w : World} {g : Nat} {T : TypeId} {cur : Array Value} {L : List Ent} (h : w.heap[g]? = some (.cells cur T (0, 0))) (hc : cur.toList = ecells L) (hl : L.length ≤ 9223372036854775807) :
    w.ownsRow 0 T 5 (.slice (some ⟨g, 0, none⟩) L.length L.length) L.length (ecells L) :=
  ⟨ecells_len L, .inr ⟨g, L.length, cur, rfl, Nat.zero_le _, h, Nat.le_refl _, by simpa [maxLen] using hl, by rw [← Array.length_toList, hc, ecells_len], by rw [hc, List.take_of_length_le (by rw [ecells_len]; omega)]⟩⟩
theorem own_p {w : World} {B n : Nat} {T : TypeId} {p : Option Addr} {d : Nat} {xs : List Value} (h : w.ownsRow B T 5 (.slice p n d) n xs) (h0 : 0 < n) : ∃ g, p = some ⟨g, 0, none⟩ := by
  rcases h.2 with ⟨hv, h1⟩ | ⟨g, cap, cur, hv, _⟩
  · omega
  · cases hv; exact ⟨g, rfl⟩
def wkSl (s : Nat) (i : Nat) : Option Addr × Nat × Nat := if i = 0 then (some ⟨s, 0, none⟩, 2, 2) else (some ⟨s + 1, 0, none⟩, 1, 1)
theorem wk_row {w : World} {s : Nat} (h0 : w.heap[s]? = some (.cells #[.string ⟨#[97]⟩, .int .i64 3, .bool true, .string ⟨#[]⟩, .int .i64 0, .string ⟨#[98]⟩, .int .i64 1, .bool false, .string ⟨#[121]⟩, .int .i64 0] 37))
    (h1 : w.heap[s + 1]? = some (.cells #[.string ⟨#[97]⟩, .int .i64 2, .bool false, .string ⟨#[120]⟩, .int .i64 0] 37))
    (h2 : w.heap[s + 1 + 1]? = some (.cells #[.slice (some ⟨s, 0, none⟩) 2 2, .slice (some ⟨s + 1, 0, none⟩) 1 1] 23)) :
    LsRow w (some ⟨s + 1 + 1, 0, none⟩) 2 (wkSl s) [[wk1, wk2], [wk3]] := by
  refine ⟨rfl, .inr ⟨s + 1 + 1, 0, rfl, lt_of_block h2, fun i hi => ?_⟩, fun i hi => ?_⟩
  · have hc := fun j => cell_of_row w (s + 1 + 1) j _ _ _ h2
    obtain rfl | rfl : i = 0 ∨ i = 1 := by omega
    · exact hc 0
    · exact hc 1
  · obtain rfl | rfl : i = 0 ∨ i = 1 := by omega
    · exact ⟨rfl, Nat.le_refl _, (own_inp (own_mk (L := [wk1, wk2]) h0 rfl (by decide))).2.2⟩
    · exact ⟨rfl, Nat.le_refl _, (own_inp (own_mk (L := [wk3]) h1 rfl (by decide))).2.2⟩

set_option maxHeartbeats 1600000 in
set_option maxRecDepth 100000 in
theorem wakes13_any (w : World) : Calls Try.prog 10 #[] w fun e w' => e = .returned (.bool true) ∧ Below w.heap.size w w' := by
  go_enter Try.func10, Try.ntmps10
  go_wp2_with fail
  have hB0 := below_alloc (below_alloc (below_alloc (Below.refl w.heap.size w) (.cells #[.string ⟨#[97]⟩, .int .i64 3, .bool true, .string ⟨#[]⟩, .int .i64 0, .string ⟨#[98]⟩, .int .i64 1, .bool false, .string ⟨#[121]⟩, .int .i64 0] 37)) (.cells #[.string ⟨#[97]⟩, .int .i64 2, .bool false, .string ⟨#[120]⟩, .int .i64 0] 37)) (.cells #[.slice (some ⟨w.heap.size, 0, none⟩) 2 2, .slice (some ⟨w.heap.size + 1, 0, none⟩) 1 1] 23)
  have hrow := wk_row (w := ((w.alloc (.cells #[.string ⟨#[97]⟩, .int .i64 3, .bool true, .string ⟨#[]⟩, .int .i64 0, .string ⟨#[98]⟩, .int .i64 1, .bool false, .string ⟨#[121]⟩, .int .i64 0] 37)).alloc (.cells #[.string ⟨#[97]⟩, .int .i64 2, .bool false, .string ⟨#[120]⟩, .int .i64 0] 37)).alloc (.cells #[.slice (some ⟨w.heap.size, 0, none⟩) 2 2, .slice (some ⟨w.heap.size + 1, 0, none⟩) 1 1] 23)) (s := w.heap.size)
    (blk_alloc (blk_alloc (heap_alloc_new _ _))) (blk_alloc (blk_new (by simp))) (blk_new (by simp))
  generalize hW : World.alloc _ _ = W0
  rw [hW] at hB0 hrow
  clear hW
  refine (merge_any _ 2 2 (wkSl w.heap.size) [[wk1, wk2], [wk3]] W0 hrow (by decide) (by decide) (fun j hj => ?_)).mono ?_
  · obtain rfl | rfl : j = 0 ∨ j = 1 := by have : j < 2 := hj; omega
    · exact sorted2 (by decide)
    · intro i k hik hk; simp at hk; omega
  rw [show [[wk1, wk2], [wk3]].flatten = [wk1, wk2, wk3] from rfl, wk_mrg]
  rintro e w1 ⟨p, d, rfl, ho1, hb1⟩
  obtain ⟨g, rfl⟩ := own_p ho1 (by decide)
  have HO1 := Lib.hid ho1
  have hl1 : W0.heap.size ≤ W0.heap.size := Nat.le_refl _
  have hB1 := chain hB0 hb1
  have hcell := fun (W : World) (hb : Below w1.heap.size w1 W) => (show W.cell? ⟨g, 5, none⟩ = some (.string ⟨#[97]⟩) ∧ W.cell? ⟨g, 6, none⟩ = some (.int .i64 2) ∧ W.cell? ⟨g, 7, none⟩ = some (.bool false) ∧ W.cell? ⟨g, 8, none⟩ = some (.string ⟨#[120]⟩) ∧ W.cell? ⟨g, 9, none⟩ = some (.int .i64 0) from by
    have ho := own_below HO1.out hb
    have hk := fun j => World.ownsRow.cellAt ho j
    exact ⟨hk 5 (by decide), hk 6 (by decide), hk 7 (by decide), hk 8 (by decide), hk 9 (by decide)⟩)
  have HCELL := Lib.hid hcell
  obtain ⟨c5, c6, c7, c8, c9⟩ := hcell w1 (Below.refl _ _)
  clear hcell ho1 hb1 hB0 hrow
  obtain ⟨i1, i2, i3⟩ := own_inp HO1.out
  have HER := Lib.hid i3
  have HI1 := Lib.hid i1
  have HI2 := Lib.hid i2
  clear i1 i2 i3
  go_wp2_with fail
  refine (vis_any _ 3 d [wk1, wk3, wk2] rfl HI1.out HI2.out (by decide) wk_sorted w1 HER.out 2 0).mono ?_
  rintro e w2 ⟨p2, d2, rfl, _, hb2⟩
  have HB2 := Lib.hid hb2
  clear hb2
  rw [wk_v2]
  go_wp2_with fail
  refine (vis_any _ 3 d [wk1, wk3, wk2] rfl HI1.out HI2.out (by decide) wk_sorted w2 (HER.out.below HB2.out) 3 0).mono ?_
  rintro e w3 ⟨p3, d3, rfl, _, hb3⟩
  have HB3 := Lib.hid (chain HB2.out hb3)
  clear hb3 HB2
  rw [wk_v3]
  go_wp2_with fail
  refine (comp_any _ 3 d [wk1, wk3, wk2] rfl HI1.out HI2.out (by decide) wk_sorted w3 (HER.out.below HB3.out) none 0 0 [] rfl (by decide) (.inl rfl) 0 true).mono ?_
  rintro e w4 ⟨p4, d4, rfl, _, hb4⟩
  have HB4 := Lib.hid (chain HB3.out hb4)
  clear hb4 HB3
  rw [wk_c1]
  go_wp2_with fail
  have hb5 := chain HB4.out (below_alloc (Below.refl w4.heap.size w4) (.cells #[.int .i64 2] 2))
  have hz5 : Row (w4.alloc (.cells #[.int .i64 2] 2)) (some ⟨w4.heap.size, 0, none⟩) 1 (fun i => .int .i64 (([2] : List Int).getD i 0)) :=
    .inr ⟨_, _, rfl, by simp, fun i hi => by
      obtain rfl : i = 0 := by omega
      exact cell_of_row _ w4.heap.size 0 _ _ _ (heap_alloc_new _ _)⟩
  refine (comp_any _ 3 d [wk1, wk3, wk2] rfl HI1.out HI2.out (by decide) wk_sorted _ (HER.out.below hb5) _ 1 1 [2] rfl (by decide) hz5 0 true).mono ?_
  rintro e w6 ⟨p6, d6, rfl, _, hb6⟩
  have HB6 := Lib.hid (chain hb5 hb6)
  clear hb6 HB4 hb5 hz5
  rw [wk_c2]
  clear c5 c6 c7 c8 c9
  obtain ⟨c5, c6, c7, c8, c9⟩ := HCELL.out w6 HB6.out
  go_wp2_with fail
  refine (alive_any _ _ _ _ _ 9 w6).mono ?_
  rintro e w7 ⟨rfl, hb7⟩
  rw [show (⟨⟨#[97]⟩, 2, false, ⟨#[120]⟩, 0⟩ : Ent) = wk3 from rfl, wk_alive]
  have hB7 := chain (chain hB1 HB6.out) hb7
  clear hb7 HB6
  go_wp2_with fail
  go_ret
  exact ⟨rfl, hB7⟩
end Go.Proofs.Ytmgdcebbeglcmaa.Ew
