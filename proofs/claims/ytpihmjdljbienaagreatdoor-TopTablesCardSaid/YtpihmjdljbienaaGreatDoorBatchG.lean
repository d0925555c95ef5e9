/- The walks of the batch's reader. -/
import Derived.Test.YtpihmjdljbienaaGreatDoorGoodI
import Derived.Test.YtpihmjdljbienaaGreatDoorGa
import Derived.Test.YtpihmjdljbienaaGreatDoorVarint
import Derived.Test.YtpihmjdljbienaaGreatDoorGb
import Derived.WalkLawsBesides
namespace Go.Proofs.YtpihmjdljbienaaGreatDoor.Bw
open Ew
open Go.RowKit
open En B Vp Vw
set_option linter.unusedVariables false

/-- the reader -/
def RBox (w : World) (rb : Nat) (s : ByteArray) (a : Int) : Prop := w.heap[rb]? = some (.cells #[.string s, .int .i64 a] 98 (0, 0))
theorem RBox.cells {w : World} {rb : Nat} {s : ByteArray} {a : Int} (h : RBox w rb s a) : w.cell? ⟨rb, 0, none⟩ = some (.string s) ∧ w.cell? ⟨rb, 1, none⟩ = some (.int .i64 a) ∧ w.frozen? ⟨rb, 1, none⟩ = false := by
  refine ⟨cell_of_row w rb 0 _ _ _ h, cell_of_row w rb 1 _ _ _ h, ?_⟩
  unfold RBox at h
  simp [World.frozen?, h]
theorem RBox.set {w : World} {rb : Nat} {s : ByteArray} {a : Int} (h : RBox w rb s a) (b : Int) : RBox (w.setCell ⟨rb, 1, none⟩ (.int .i64 b)) rb s b := by
  unfold RBox at h ⊢
  rw [heap_setCell_same w rb 1 _ _ _ h]; rfl
theorem RBox.below {w w' : World} {rb : Nat} {s : ByteArray} {a : Int} (h : RBox w rb s a) (k : Below w.heap.size w w') : RBox w' rb s a := (k.block rb (lt_of_block h)).trans h
theorem RBox.drewN {w : World} {rb : Nat} {s : ByteArray} {a : Int} (h : RBox w rb s a) (n : Nat) : RBox (w.drewN n) rb s a := h

set_option maxHeartbeats 400000 in
theorem must_ok (rb : Nat) (w : World) : Calls Tryz.prog 102 #[.pointer (some ⟨rb, 0, none⟩), .int .i64 0] w fun e w' => e = .returned (.tuple #[]) ∧ w = w' := by
  go_enter Tryz.func102, Tryz.ntmps102
  go_wp2_with fail
  go_end0
  exact ⟨rfl, rfl⟩
set_option maxHeartbeats 400000 in
theorem must_bad (rb : Nat) (n : Int) (h : n ≠ 0) (w : World) : Calls Tryz.prog 102 #[.pointer (some ⟨rb, 0, none⟩), .int .i64 n] w fun e w' => e = pan 94 n ∧ w = w' := by
  have h1 : (n != 0) = true := nt h
  go_enter Tryz.func102, Tryz.ntmps102
  go_wp2_with fail
  exact ⟨rfl, rfl, rfl⟩

set_option maxHeartbeats 800000 in
theorem count_any (rb : Nat) (s : ByteArray) (a : Int) (hs : s.size ≤ 4611686018427387904) (w : World) (hb : RBox w rb s a) :
    Calls Tryz.prog 51 #[.pointer (some ⟨rb, 0, none⟩)] w fun e w' => ∃ b, RBox w' rb s b ∧ Only rb w w' ∧
      (((cntS s a).e = 0 ∧ e = .returned (.int .i64 (cntS s a).n) ∧ b = (cntS s a).next) ∨ ((cntS s a).e ≠ 0 ∧ e = pan 94 (cntS s a).e)) := by
  have HG := Lib.hid (fun W : World => get_any s a hs W)
  have hc : cntS s a = if (getS s a).e = 0 ∧ (getS s a).n < 0 then ⟨0, 0, 4⟩ else getS s a := rfl
  generalize cntS s a = c at hc ⊢
  generalize getS s a = g at HG hc
  obtain ⟨gn, gx, ge⟩ := g
  simp only [ret3] at HG hc
  have HC := Lib.hid hc
  have HB := Lib.hid hb
  obtain ⟨k0, k1, k2⟩ := hb.cells
  clear hc hb
  by_cases h1 : ge = 0
  · subst h1
    by_cases h2 : gn < 0
    · have hce : c = ⟨0, 0, 4⟩ := by rw [HC.out, if_pos ⟨rfl, h2⟩]
      subst hce
      go_enter Tryz.func51, Tryz.ntmps51
      go_wp2_with fail
      go_quiet ((go_at_call 101; exact quiet_add_left (HG.out _)))
      go_wp2_with fail
      refine (must_bad _ _ (by decide) _).mono ?_
      rintro e w1 ⟨rfl, rfl⟩
      go_wp2_with fail
      refine ⟨rfl, a, HB.out.drewN _, (Only.refl _ _).drewN _, .inr ⟨by decide, rfl⟩⟩
    · have hce : c = ⟨gn, gx, 0⟩ := by rw [HC.out, if_neg (by simp; omega)]
      subst hce
      have h3 : decide (gn < 0) = false := df h2
      go_enter Tryz.func51, Tryz.ntmps51
      go_wp2_with fail
      go_quiet ((go_at_call 101; exact quiet_add_left (HG.out _)))
      go_wp2_with fail
      refine (must_ok _ _).mono ?_
      rintro e w1 ⟨rfl, rfl⟩
      go_wp2_with fail
      go_ret
      refine ⟨gx, (HB.out.drewN _).set gx, ((Only.refl _ _).drewN _).set _ _, .inl ⟨trivial, rfl, rfl⟩⟩
  · have hce : c = ⟨gn, gx, ge⟩ := by rw [HC.out, if_neg (by simp [h1])]
    subst hce
    have h3 : (ge == 0) = false := ef h1
    go_enter Tryz.func51, Tryz.ntmps51
    go_wp2_with fail
    go_quiet ((go_at_call 101; exact quiet_add_left (HG.out _)))
    go_wp2_with fail
    refine (must_bad _ _ h1 _).mono ?_
    rintro e w1 ⟨rfl, rfl⟩
    go_wp2_with fail
    refine ⟨rfl, a, HB.out.drewN _, (Only.refl _ _).drewN _, .inr ⟨h1, rfl⟩⟩

set_option maxHeartbeats 800000 in
theorem text_any (rb : Nat) (s : ByteArray) (a : Int) (hs : s.size ≤ 4611686018427387904) (w : World) (hb : RBox w rb s a) :
    Calls Tryz.prog 103 #[.pointer (some ⟨rb, 0, none⟩)] w fun e w' => ∃ b, RBox w' rb s b ∧ Only rb w w' ∧
      (((getT s a).e = 0 ∧ e = .returned (.string (getT s a).t) ∧ b = (getT s a).next) ∨ ((getT s a).e ≠ 0 ∧ e = pan 94 (getT s a).e)) := by
  have HG := Lib.hid (fun W : World => getText_any s a hs W)
  generalize getT s a = g at HG ⊢
  obtain ⟨gn, gx, ge⟩ := g
  simp only [retT] at HG
  have HB := Lib.hid hb
  obtain ⟨k0, k1, k2⟩ := hb.cells
  clear hb
  by_cases h1 : ge = 0
  · subst h1
    go_enter Tryz.func103, Tryz.ntmps103
    go_wp2_with fail
    go_quiet ((go_at_call 126; exact quiet_add_left (HG.out _)))
    go_wp2_with fail
    refine (must_ok _ _).mono ?_
    rintro e w1 ⟨rfl, rfl⟩
    go_wp2_with fail
    go_ret
    refine ⟨gx, (HB.out.drewN _).set gx, ((Only.refl _ _).drewN _).set _ _, .inl ⟨trivial, rfl, rfl⟩⟩
  · go_enter Tryz.func103, Tryz.ntmps103
    go_wp2_with fail
    go_quiet ((go_at_call 126; exact quiet_add_left (HG.out _)))
    go_wp2_with fail
    refine (must_bad _ _ h1 _).mono ?_
    rintro e w1 ⟨rfl, rfl⟩
    go_wp2_with fail
    refine ⟨rfl, a, HB.out.drewN _, (Only.refl _ _).drewN _, .inr ⟨h1, rfl⟩⟩
end Go.Proofs.YtpihmjdljbienaaGreatDoor.Bw
