/- The walks of the block's reader: must, number, count, text. -/
import Derived.Test.YtpihmjdljbienaaGreatDoorGa
import Derived.Test.YtpihmjdljbienaaGreatDoorVarint
import Derived.Test.YtpihmjdljbienaaGreatDoorGb
import Derived.WalkLawsBesides
namespace Go.Proofs.YtpihmjdljbienaaGreatDoor.Ew
open Go.RowKit
open En B Vp Vw
set_option linter.unusedVariables false

/-- the reader -/
def RBox (w : World) (rb : Nat) (s : ByteArray) (a : Int) : Prop := w.heap[rb]? = some (.cells #[.string s, .int .i64 a] 210 (0, 0))
theorem RBox.cells {w : World} {rb : Nat} {s : ByteArray} {a : Int} (h : RBox w rb s a) : w.cell? ⟨rb, 0, none⟩ = some (.string s) ∧ w.cell? ⟨rb, 1, none⟩ = some (.int .i64 a) ∧ w.frozen? ⟨rb, 1, none⟩ = false := by
  refine ⟨cell_of_row w rb 0 _ _ _ h, cell_of_row w rb 1 _ _ _ h, ?_⟩
  unfold RBox at h
  simp [World.frozen?, h]
theorem RBox.set {w : World} {rb : Nat} {s : ByteArray} {a : Int} (h : RBox w rb s a) (b : Int) : RBox (w.setCell ⟨rb, 1, none⟩ (.int .i64 b)) rb s b := by
  unfold RBox at h ⊢
  rw [heap_setCell_same w rb 1 _ _ _ h]; rfl
theorem RBox.below {w w' : World} {rb : Nat} {s : ByteArray} {a : Int} (h : RBox w rb s a) (k : Below w.heap.size w w') : RBox w' rb s a := (k.block rb (lt_of_block h)).trans h
theorem RBox.drewN {w : World} {rb : Nat} {s : ByteArray} {a : Int} (h : RBox w rb s a) (n : Nat) : RBox (w.drewN n) rb s a := h

set_option maxHeartbeats 400000 in
theorem must_ok (w : World) : Calls Tryz.prog 132 #[.int .i64 0] w fun e w' => e = .returned (.tuple #[]) ∧ w = w' := by
  go_enter Tryz.func132, Tryz.ntmps132
  go_wp2_with fail
  go_end0
  exact ⟨rfl, rfl⟩
set_option maxHeartbeats 400000 in
theorem must_bad (n : Int) (h : n ≠ 0) (w : World) : Calls Tryz.prog 132 #[.int .i64 n] w fun e w' => e = pan 206 n ∧ w = w' := by
  have h1 : (n != 0) = true := nt h
  go_enter Tryz.func132, Tryz.ntmps132
  go_wp2_with fail
  exact ⟨rfl, rfl, rfl⟩

set_option maxHeartbeats 800000 in
theorem number_any (rb : Nat) (s : ByteArray) (a : Int) (hs : s.size ≤ 4611686018427387904) (w : World) (hb : RBox w rb s a) :
    Calls Tryz.prog 154 #[.pointer (some ⟨rb, 0, none⟩)] w fun e w' => ∃ b, RBox w' rb s b ∧ Only rb w w' ∧
      (((getS s a).e = 0 ∧ e = .returned (.int .i64 (getS s a).n) ∧ b = (getS s a).next) ∨ ((getS s a).e ≠ 0 ∧ e = pan 206 (getS s a).e)) := by
  have HG := Lib.hid (fun W : World => get_any s a hs W)
  generalize getS s a = g at HG ⊢
  obtain ⟨gn, gx, ge⟩ := g
  simp only [ret3] at HG
  have HB := Lib.hid hb
  obtain ⟨k0, k1, k2⟩ := hb.cells
  clear hb
  by_cases h1 : ge = 0
  · subst h1
    go_enter Tryz.func154, Tryz.ntmps154
    go_wp2_with fail
    go_quiet ((go_at_call 101; exact quiet_add_left (HG.out _)))
    go_wp2_with fail
    refine (must_ok _).mono ?_
    rintro e w1 ⟨rfl, rfl⟩
    go_wp2_with fail
    go_ret
    refine ⟨gx, (HB.out.drewN _).set gx, ((Only.refl _ _).drewN _).set _ _, .inl ⟨trivial, rfl, rfl⟩⟩
  · go_enter Tryz.func154, Tryz.ntmps154
    go_wp2_with fail
    go_quiet ((go_at_call 101; exact quiet_add_left (HG.out _)))
    go_wp2_with fail
    refine (must_bad _ h1 _).mono ?_
    rintro e w1 ⟨rfl, rfl⟩
    go_wp2_with fail
    refine ⟨rfl, a, HB.out.drewN _, (Only.refl _ _).drewN _, .inr ⟨h1, rfl⟩⟩

set_option maxHeartbeats 800000 in
theorem text_any (rb : Nat) (s : ByteArray) (a : Int) (hs : s.size ≤ 4611686018427387904) (w : World) (hb : RBox w rb s a) :
    Calls Tryz.prog 155 #[.pointer (some ⟨rb, 0, none⟩)] w fun e w' => ∃ b, RBox w' rb s b ∧ Only rb w w' ∧
      (((getT s a).e = 0 ∧ e = .returned (.string (getT s a).t) ∧ b = (getT s a).next) ∨ ((getT s a).e ≠ 0 ∧ e = pan 206 (getT s a).e)) := by
  have HG := Lib.hid (fun W : World => getText_any s a hs W)
  generalize getT s a = g at HG ⊢
  obtain ⟨gn, gx, ge⟩ := g
  simp only [retT] at HG
  have HB := Lib.hid hb
  obtain ⟨k0, k1, k2⟩ := hb.cells
  clear hb
  by_cases h1 : ge = 0
  · subst h1
    go_enter Tryz.func155, Tryz.ntmps155
    go_wp2_with fail
    go_quiet ((go_at_call 126; exact quiet_add_left (HG.out _)))
    go_wp2_with fail
    refine (must_ok _).mono ?_
    rintro e w1 ⟨rfl, rfl⟩
    go_wp2_with fail
    go_ret
    refine ⟨gx, (HB.out.drewN _).set gx, ((Only.refl _ _).drewN _).set _ _, .inl ⟨trivial, rfl, rfl⟩⟩
  · go_enter Tryz.func155, Tryz.ntmps155
    go_wp2_with fail
    go_quiet ((go_at_call 126; exact quiet_add_left (HG.out _)))
    go_wp2_with fail
    refine (must_bad _ h1 _).mono ?_
    rintro e w1 ⟨rfl, rfl⟩
    go_wp2_with fail
    refine ⟨rfl, a, HB.out.drewN _, (Only.refl _ _).drewN _, .inr ⟨h1, rfl⟩⟩

section
variable {rb : Nat} {s : ByteArray} {a : Int} (hs : s.size ≤ 4611686018427387904)
include hs
theorem text_ok {g : GT} (hg : getT s a = g) (h : g.e = 0) (w : World) (hb : RBox w rb s a) : Calls Tryz.prog 155 #[.pointer (some ⟨rb, 0, none⟩)] w fun e w' => e = .returned (.string g.t) ∧ RBox w' rb s g.next ∧ Only rb w w' := by
  subst hg
  refine (text_any rb s a hs w hb).mono ?_
  rintro e w' ⟨b, h1, h2, ⟨_, h4, rfl⟩ | ⟨h3, _⟩⟩
  · exact ⟨h4, h1, h2⟩
  · exact absurd h h3
theorem text_bad {g : GT} (hg : getT s a = g) (h : g.e ≠ 0) (w : World) (hb : RBox w rb s a) : Calls Tryz.prog 155 #[.pointer (some ⟨rb, 0, none⟩)] w fun e w' => e = pan 206 g.e ∧ (∃ b, RBox w' rb s b) ∧ Only rb w w' := by
  subst hg
  refine (text_any rb s a hs w hb).mono ?_
  rintro e w' ⟨b, h1, h2, ⟨h3, _⟩ | ⟨_, h4⟩⟩
  · exact absurd h3 h
  · exact ⟨h4, ⟨b, h1⟩, h2⟩
theorem number_ok {g : G} (hg : getS s a = g) (h : g.e = 0) (w : World) (hb : RBox w rb s a) : Calls Tryz.prog 154 #[.pointer (some ⟨rb, 0, none⟩)] w fun e w' => e = .returned (.int .i64 g.n) ∧ RBox w' rb s g.next ∧ Only rb w w' := by
  subst hg
  refine (number_any rb s a hs w hb).mono ?_
  rintro e w' ⟨b, h1, h2, ⟨_, h4, rfl⟩ | ⟨h3, _⟩⟩
  · exact ⟨h4, h1, h2⟩
  · exact absurd h h3
theorem number_bad {g : G} (hg : getS s a = g) (h : g.e ≠ 0) (w : World) (hb : RBox w rb s a) : Calls Tryz.prog 154 #[.pointer (some ⟨rb, 0, none⟩)] w fun e w' => e = pan 206 g.e ∧ (∃ b, RBox w' rb s b) ∧ Only rb w w' := by
  subst hg
  refine (number_any rb s a hs w hb).mono ?_
  rintro e w' ⟨b, h1, h2, ⟨h3, _⟩ | ⟨_, h4⟩⟩
  · exact absurd h3 h
  · exact ⟨h4, ⟨b, h1⟩, h2⟩

set_option maxHeartbeats 800000 in
theorem count_any (most above : Int) (w : World) (hb : RBox w rb s a) :
    Calls Tryz.prog 130 #[.pointer (some ⟨rb, 0, none⟩), .int .i64 most, .int .i64 above] w fun e w' => ∃ b, RBox w' rb s b ∧ Only rb w w' ∧
      (((cntB s a most above).e = 0 ∧ e = .returned (.int .i64 (cntB s a most above).n) ∧ b = (cntB s a most above).next) ∨ ((cntB s a most above).e ≠ 0 ∧ e = pan 206 (cntB s a most above).e)) := by
  obtain ⟨c, hc⟩ : ∃ c, c = cntB s a most above := ⟨_, rfl⟩
  rw [← hc]
  unfold cntB at hc
  obtain ⟨g, hg⟩ : ∃ g, g = getS s a := ⟨_, rfl⟩
  rw [← hg] at hc
  have HC := Lib.hid hc
  by_cases h1 : g.e = 0
  case neg =>
    have HN := Lib.hid (number_bad hs hg.symm h1 w hb)
    obtain rfl : c = ⟨0, 0, g.e⟩ := by rw [HC.out, if_pos h1]
    clear hc hg hb
    go_enter Tryz.func130, Tryz.ntmps130
    go_wp2_with fail
    refine HN.out.mono ?_
    rintro e w1 ⟨rfl, ⟨b, hx⟩, ho⟩
    have HX := Lib.hid hx
    have HO := Lib.hid ho
    clear hx ho
    go_wp2_with fail
    exact ⟨rfl, b, HX.out, HO.out, .inr ⟨h1, rfl⟩⟩
  case pos =>
  have HN := Lib.hid (number_ok hs hg.symm h1 w hb)
  rw [if_neg (by simp [h1])] at HC
  have h1' := Lib.hid h1
  obtain ⟨gn, gx, ge⟩ := g
  simp only at HN HC h1'
  clear hc hg hb h1
  by_cases h2 : gn < 0
  · obtain rfl : c = ⟨0, 0, 4⟩ := by rw [HC.out, if_pos h2]
    have e2 : decide (gn < 0) = true := dt h2
    clear h2
    go_enter Tryz.func130, Tryz.ntmps130
    go_wp2_with fail
    refine HN.out.mono ?_
    rintro e w1 ⟨rfl, hx, ho⟩
    have HX := Lib.hid hx
    have HO := Lib.hid ho
    clear hx ho
    go_wp2_with fail
    refine (must_bad _ (by decide) _).mono ?_
    rintro e w2 ⟨rfl, rfl⟩
    go_wp2_with fail
    exact ⟨rfl, _, HX.out, HO.out, .inr ⟨by decide, rfl⟩⟩
  · have e2 : decide (gn < 0) = false := df h2
    rw [if_neg h2] at HC
    by_cases h3 : most < gn
    · have e3 : decide (most < gn) = true := dt h3
      by_cases h4 : above = 0
      · subst h4
        obtain rfl : c = ⟨gn, gx, ge⟩ := by rw [HC.out, if_neg (by simp)]
        clear h2 h3
        go_enter Tryz.func130, Tryz.ntmps130
        go_wp2_with fail
        refine HN.out.mono ?_
        rintro e w1 ⟨rfl, hx, ho⟩
        have HX := Lib.hid hx
        have HO := Lib.hid ho
        clear hx ho
        go_wp2_with fail
        refine (must_ok _).mono ?_
        rintro e w2 ⟨rfl, rfl⟩
        go_wp2_with fail
        go_ret
        exact ⟨_, HX.out, HO.out, .inl ⟨h1'.out, rfl, rfl⟩⟩
      · obtain rfl : c = ⟨0, 0, above⟩ := by rw [HC.out, if_pos ⟨h3, h4⟩]
        clear h2 h3
        go_enter Tryz.func130, Tryz.ntmps130
        go_wp2_with fail
        refine HN.out.mono ?_
        rintro e w1 ⟨rfl, hx, ho⟩
        have HX := Lib.hid hx
        have HO := Lib.hid ho
        clear hx ho
        go_wp2_with fail
        refine (must_bad _ h4 _).mono ?_
        rintro e w2 ⟨rfl, rfl⟩
        go_wp2_with fail
        exact ⟨rfl, _, HX.out, HO.out, .inr ⟨h4, rfl⟩⟩
    · have e3 : decide (most < gn) = false := df h3
      obtain rfl : c = ⟨gn, gx, ge⟩ := by rw [HC.out, if_neg (fun hh => h3 hh.1)]
      clear h2 h3
      go_enter Tryz.func130, Tryz.ntmps130
      go_wp2_with fail
      refine HN.out.mono ?_
      rintro e w1 ⟨rfl, hx, ho⟩
      have HX := Lib.hid hx
      have HO := Lib.hid ho
      clear hx ho
      go_wp2_with fail
      go_ret
      exact ⟨_, HX.out, HO.out, .inl ⟨h1'.out, rfl, rfl⟩⟩
theorem count_ok {most above : Int} {g : G} (hg : cntB s a most above = g) (h : g.e = 0) (w : World) (hb : RBox w rb s a) : Calls Tryz.prog 130 #[.pointer (some ⟨rb, 0, none⟩), .int .i64 most, .int .i64 above] w fun e w' => e = .returned (.int .i64 g.n) ∧ RBox w' rb s g.next ∧ Only rb w w' := by
  subst hg
  refine (count_any hs most above w hb).mono ?_
  rintro e w' ⟨b, h1, h2, ⟨_, h4, rfl⟩ | ⟨h3, _⟩⟩
  · exact ⟨h4, h1, h2⟩
  · exact absurd h h3
theorem count_bad {most above : Int} {g : G} (hg : cntB s a most above = g) (h : g.e ≠ 0) (w : World) (hb : RBox w rb s a) : Calls Tryz.prog 130 #[.pointer (some ⟨rb, 0, none⟩), .int .i64 most, .int .i64 above] w fun e w' => e = pan 206 g.e ∧ (∃ b, RBox w' rb s b) ∧ Only rb w w' := by
  subst hg
  refine (count_any hs most above w hb).mono ?_
  rintro e w' ⟨b, h1, h2, ⟨h3, _⟩ | ⟨_, h4⟩⟩
  · exact absurd h3 h
  · exact ⟨h4, ⟨b, h1⟩, h2⟩
end
end Go.Proofs.YtpihmjdljbienaaGreatDoor.Ew
