/- The walk of layer 6's wakes. -/
import Derived.Test.YtdhnkalkfipmhaaSkipG
namespace Go.Proofs.Ytdhnkalkfipmhaa.Ew
open Go.RowKit
open En B
set_option linter.unusedVariables false

def wkE : Ent := ⟨⟨#[97]⟩, 3, false, ⟨#[120, 121, 122]⟩, 0⟩

theorem SK.keeps {w w' : World} {B lb : Nat} {z : List Int} {ns : List Nd} {size : Int} {ts : List TypeId} (h : SK w B lb z ns size) (k : Keeps ts w w') (h1 : 92 ∉ ts) (h2 : 90 ∉ ts) (h3 : 93 ∉ ts) (h4 : 3 ∉ ts) : SK w' B lb z ns size := by
  obtain ⟨ha, ca, cc, g1, g2, g3, g4⟩ := h
  exact ⟨ha, ca, cc, g1, g2.keeps k h1, g3.keeps k h3 h2, own_keeps g4 k h4⟩
theorem keeps_set5 {w : World} {g : Nat} {t : TypeId} {e : Ent} (h : EBox w g t e) (x : Ent) : Keeps [t] w (set5 w g 0 x) := by
  intro g' cs t' fr h1 h2
  have hne : g' ≠ g := fun e' => by
    subst e'
    unfold EBox at h
    rw [h] at h1
    simp only [Option.some.injEq, Obj.cells.injEq] at h1
    simp at h2; exact h2 h1.2.1.symm
  unfold set5
  exact blk_far (blk_far (blk_far (blk_far (blk_far h1 hne) hne) hne) hne) hne
theorem far5s {w : World} {g g' : Nat} {t : TypeId} {e : Ent} (h : EBox w g t e) (hne : g ≠ g') (x : Ent) : EBox (set5 w g' 0 x) g t e := by
  unfold set5
  exact blk_far (blk_far (blk_far (blk_far (blk_far h hne) hne) hne) hne) hne

set_option maxHeartbeats 1600000 in
set_option maxRecDepth 100000 in
theorem wakes6_any (w : World) : Calls Try.prog 18 #[] w fun e w' => e = .returned (.bool true) ∧ Below w.heap.size w w' := by
  have hsk1 : skE [] wkE = ([wkE], 0) := by unfold skE; rw [if_neg (by decide), if_neg (by decide)]; rfl
  have hsk2 : skE [wkE] wkE = ([wkE], 11) := by unfold skE; rw [if_neg (by decide), if_pos (by decide)]
  have hco : costE [2] 0 wkE = 68 := by decide
  have hfo : foundE [wkE] ⟨#[97]⟩ 5 = (wkE, true) := found_at (l := [wkE]) 0 (by decide) (fun k hk => by omega) (by decide)
  go_enter Try.func18, Try.ntmps18
  go_wp2_with fail
  have hrow : Row (w.alloc (.cells #[.int .i64 2] 3)) (some ⟨w.heap.size, 0, none⟩) 1 (fun i => .int .i64 (([2] : List Int).getD i 0)) :=
    .inr ⟨_, _, rfl, by simp, fun i hi => by
      obtain rfl : i = 0 := by omega
      exact cell_of_row _ w.heap.size 0 _ _ _ (heap_alloc_new _ _)⟩
  have hB0 := below_alloc (Below.refl w.heap.size w) (.cells #[.int .i64 2] 3)
  refine (new_any _ 1 1 [2] rfl (by omega) _ hrow).mono ?_
  rintro e w1 ⟨lb, rfl, hs1, hb1⟩
  have hB1 := chain hB0 hb1
  obtain ⟨B, hBe⟩ : ∃ B, B = (w.alloc (.cells #[.int .i64 2] 3)).heap.size := ⟨_, rfl⟩
  rw [← hBe] at hs1
  have hBw : w.heap.size ≤ B := by rw [hBe]; simp
  have hB9 : B ≤ w1.heap.size := by rw [hBe]; exact hb1.size
  have HS1 := Lib.hid hs1
  clear hrow hb1 hB0 hBe hs1
  have hbx := below_alloc (below_alloc (Below.refl w1.heap.size w1) (.cells #[.string ⟨#[97]⟩, .int .i64 3, .bool false, .string ⟨#[120, 121, 122]⟩, .int .i64 0] 36)) (.cells #[.string ⟨#[]⟩, .int .i64 0, .bool false, .string ⟨#[]⟩, .int .i64 0] 36)
  have hE2 : EBox ((w1.alloc (.cells #[.string ⟨#[97]⟩, .int .i64 3, .bool false, .string ⟨#[120, 121, 122]⟩, .int .i64 0] 36)).alloc (.cells #[.string ⟨#[]⟩, .int .i64 0, .bool false, .string ⟨#[]⟩, .int .i64 0] 36)) w1.heap.size 36 wkE := blk_alloc (heap_alloc_new _ _)
  have hG2 : EBox ((w1.alloc (.cells #[.string ⟨#[97]⟩, .int .i64 3, .bool false, .string ⟨#[120, 121, 122]⟩, .int .i64 0] 36)).alloc (.cells #[.string ⟨#[]⟩, .int .i64 0, .bool false, .string ⟨#[]⟩, .int .i64 0] 36)) (w1.heap.size + 1) 36 ent0 := blk_new (by simp)
  obtain ⟨e0, e1, e2, e3, e4⟩ := hE2.cells
  simp only [wkE] at e0 e1 e2 e3 e4
  go_wp2_with fail
  generalize hW : World.alloc _ _ = W2
  rw [hW] at hbx hE2 hG2
  have hne : w1.heap.size ≠ w1.heap.size + 1 := by omega
  have hb3w : w.heap.size ≤ w1.heap.size + 1 := by omega
  generalize w1.heap.size + 1 = b3 at hG2 hne hb3w ⊢
  clear hW e0 e1 e2 e3 e4
  have hS2 := HS1.out.below hbx
  have hB2 := chain hB1 hbx
  have hB92 : B ≤ W2.heap.size := Nat.le_trans hB9 hbx.size
  generalize w1.heap.size = b2 at hE2 hne ⊢
  clear HS1 hB1 hB9 hbx w1
  refine (put_any W2 B lb [2] [] 0 hB92 hS2 (fun i j _ h => by simp at h) (by simp) (by simp) (by intro x hx; simp at hx; subst hx; omega) (by omega) ⟨#[97]⟩ 3 false ⟨#[120, 121, 122]⟩ 0).mono ?_
  rintro e w3 ⟨rfl, ⟨ns1, hm1, hs3⟩, hb3, hk3⟩
  rw [show (⟨⟨#[97]⟩, 3, false, ⟨#[120, 121, 122]⟩, 0⟩ : Ent) = wkE from rfl, show List.map Nd.e [] = [] from rfl, hsk1] at hm1 hs3
  simp only [if_true, List.length_nil, hco] at hs3
  rw [show (⟨⟨#[97]⟩, 3, false, ⟨#[120, 121, 122]⟩, 0⟩ : Ent) = wkE from rfl, show List.map Nd.e [] = [] from rfl, hsk1]
  have hE3 := hE2.keeps hk3 (by decide)
  have hG3 := hG2.keeps hk3 (by decide)
  have hB3 := hB2.trans (hb3.mono hBw)
  have hB93 : B ≤ w3.heap.size := Nat.le_trans hB92 hb3.size
  have hS3 := Lib.hid hs3
  simp only at hm1
  clear hS2 hB2 hE2 hG2 hb3 hk3 hB92 hs3 W2
  go_wp2_with fail
  refine (sget_any w3 B lb [2] ns1 _ hS3.out (by rw [hm1]; exact fun i j h1 h2 => by simp at h2; omega) ⟨#[97]⟩ 5).mono ?_
  rintro e w4 ⟨rfl, hb4⟩
  rw [hm1, hfo]
  have hE4 := hE3.below hb4
  have hG4 := hG3.below hb4
  have hS4 := Lib.hid (hS3.out.below hb4)
  have hB4 := chain hB3 hb4
  have hB94 := Nat.le_trans hB93 hb4.size
  simp only [wkE, Ent.v]
  clear hb4 hE3 hG3 hS3 hB3 hB93 w3
  obtain ⟨g0, g1, g2, g3, g4⟩ := hG4.cells
  obtain ⟨z0, z1, z2, z3, z4⟩ : _ ∧ _ ∧ _ ∧ _ ∧ _ := ⟨hG4.fz 0, hG4.fz 1, hG4.fz 2, hG4.fz 3, hG4.fz 4⟩
  simp only [ent0] at g0 g1 g2 g3 g4
  go_wp2_with fail
  generalize hW : World.setCell _ _ _ = W5
  have hk5 : Keeps [36] w4 W5 := by rw [← hW]; exact keeps_set5 hG4 wkE
  have hG5 : EBox W5 b3 36 wkE := by rw [← hW]; exact hG4.set5 wkE
  have hE5 : EBox W5 b2 36 wkE := by rw [← hW]; exact far5s hE4 hne wkE
  have hB5 : Below w.heap.size w W5 := by rw [← hW]; exact below_set5 hB4 hb3w wkE
  have hB95 : B ≤ W5.heap.size := by rw [← hW]; simpa [World.setCell] using hB94
  have hS5 := hS4.out.keeps hk5 (by decide) (by decide) (by decide) (by decide)
  clear hW hk5 hG4 hE4 hS4 hB4 hB94 g0 g1 g2 g3 g4 z0 z1 z2 z3 z4 w4
  refine (from_any _ lb _).mono ?_
  rintro e w6 ⟨⟨fa, fb, rfl⟩, hb6⟩
  have hG6 := hG5.below hb6
  have hE6 := hE5.below hb6
  have hS6 := Lib.hid (hS5.below hb6)
  have hB6 := chain hB5 hb6
  have hB96 := Nat.le_trans hB95 hb6.size
  clear hG5 hE5 hS5 hB5 hB95 hb6 W5
  have hfn : ∀ W : World, (binOp .neq 86 (.func (.func 52) #[] #[.pointer (some ⟨fa, 0, none⟩), .pointer (some ⟨fb, 0, none⟩)]) .nilFunc).run Try.prog W = .ok (.bool true) W := fun _ => by kernel_rfl
  have hl1 : ns1.length = 1 := by have := congrArg List.length hm1; simpa using this
  obtain ⟨g0, g1, g2, g3, g4⟩ := hG6.cells
  obtain ⟨e0, e1, e2, e3, e4⟩ := hE6.cells
  simp only [wkE] at g0 g1 g2 g3 g4 e0 e1 e2 e3 e4
  have heq : ∀ W : World, (binOp .eql 36 (.agg #[.string ⟨#[97]⟩, .int .i64 3, .bool false, .string ⟨#[120, 121, 122]⟩, .int .i64 0]) (.agg #[.string ⟨#[97]⟩, .int .i64 3, .bool false, .string ⟨#[120, 121, 122]⟩, .int .i64 0])).run Try.prog W = .ok (.bool true) W := fun W => by rw [eql_api, eqE_refl]
  have HZ := Lib.hid (ssize_any w6 B lb [2] ns1 _ hS6.out)
  have HLN := Lib.hid (len_any w6 B lb [2] ns1 _ hS6.out)
  have HPT := Lib.hid (put_any w6 B lb [2] ns1 _ hB96 hS6.out (by rw [hm1]; exact fun i j h1 h2 => by simp at h2; omega) (by omega) (by simp) (by intro x hx; simp at hx; subst hx; omega) (by omega) ⟨#[97]⟩ 3 false ⟨#[120, 121, 122]⟩ 0)
  rw [hm1, show (⟨⟨#[97]⟩, 3, false, ⟨#[120, 121, 122]⟩, 0⟩ : Ent) = wkE from rfl] at HPT
  rw [hl1] at HLN
  unfold PutR at HPT
  rw [hsk2] at HPT
  clear hm1 hsk1 hsk2 hco hfo
  go_wp2_with fail
  refine HZ.out.mono ?_
  rintro e w7 ⟨rfl, rfl⟩
  go_wp2_with fail
  refine HLN.out.mono ?_
  rintro e w7 ⟨rfl, rfl⟩
  go_wp2_with fail
  refine HPT.out.mono ?_
  rintro e w7 ⟨rfl, _, hb7, _⟩
  have hBz := hB6.trans (hb7.mono hBw)
  go_wp2_with fail
  go_ret
  exact ⟨rfl, hBz⟩
end Go.Proofs.Ytdhnkalkfipmhaa.Ew
