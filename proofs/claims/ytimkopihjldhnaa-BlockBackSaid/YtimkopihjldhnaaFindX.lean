/- The walks of Find and of the reference's Get. -/
import Derived.Test.YtimkopihjldhnaaFindW
import Derived.Test.YtimkopihjldhnaaParseE
import Derived.Test.YtimkopihjldhnaaParseM
import Derived.Test.YtimkopihjldhnaaEqE
namespace Go.Proofs.Ytimkopihjldhnaa.Ew
open Go.RowKit
open En B
set_option linter.unusedVariables false

theorem toList_ne {a b : ByteArray} (h : a ≠ b) : (a.toList == b.toList) = false := beq_eq_false_iff_ne.2 fun e => h (toList_inj e)

def GotF (w : World) (r : Ent × Bool) (n : Int) (e : Ending) (w' : World) : Prop :=
  e = .returned (.tuple #[r.1.v, .bool r.2, .int .i64 n]) ∧ Below w.heap.size w w'
theorem find_exit {w W : World} {T : Array Value} {r : Ent × Bool} {n : Int} (h6 : T.getD 6 undef = .pointer (some ⟨w.heap.size, 0, none⟩)) (h7 : T.getD 7 undef = .bool r.2) (h8 : T.getD 8 undef = .int .i64 n)
    (hE : EBox W w.heap.size 45 r.1) (hB : Below w.heap.size w W) :
    bodyPost Try.prog Try.f18 (GotF w r n) .ret { tmps := T, defers := [] } W := by
  obtain ⟨c0, c1, c2, c3, c4⟩ := hE.cells
  simp [Array.getD_eq_getD_getElem?] at h6 h7 h8
  refine bodyPost_ret (v := .tuple #[r.1.v, .bool r.2, .int .i64 n]) ?_ rfl ⟨rfl, hB⟩
  simp [results, Try.results18, go_sem, c0, c1, c2, c3, c4, h6, h7, h8, Ent.v]

set_option maxHeartbeats 1600000 in
set_option maxRecDepth 100000 in
theorem find_any (s : ByteArray) (hs : s.size ≤ 4611686018427387904) (key : ByteArray) (seq : Int) (w : World) :
    Calls Try.prog 18 #[.string s, .string key, .int .i64 seq] w (GotF w (foundE (parseE s).1 key seq) (parseE s).2) := by
  have HP := Lib.hid (fun W : World => parse_any s hs W)
  have hlen := parse_len s
  have HG := Lib.hid (@parse_good s)
  have HN := Lib.hid (@parse_nil s)
  generalize parseE s = p at HP HG HN hlen ⊢
  obtain ⟨l, n⟩ := p
  simp only at HG HN hlen ⊢
  obtain ⟨r, hr⟩ : ∃ r, r = foundE l key seq := ⟨_, rfl⟩
  rw [← hr]
  have HR := Lib.hid hr
  clear hr
  have hB0 := below_alloc (Below.refl w.heap.size w) (.cells #[.string ⟨#[]⟩, .int .i64 0, .bool false, .string ⟨#[]⟩, .int .i64 0] 45)
  have hE0 : EBox (w.alloc (.cells #[.string ⟨#[]⟩, .int .i64 0, .bool false, .string ⟨#[]⟩, .int .i64 0] 45)) w.heap.size 45 ent0 := EBox.new w 45 ent0
  have HE0 := Lib.hid hE0
  clear hE0
  go_enter Try.func18, Try.ntmps18
  go_wp2_with fail
  refine (HP.out _).mono ?_
  rintro e w1 ⟨a1, c1, rfl, ho1, hb1⟩
  have hB1 := chain hB0 hb1
  have HE1 := Lib.hid (HE0.out.below hb1)
  simp only at ho1
  have R1 := Lib.hid (own_erow ho1).2.2
  have z1 := cap_own ho1
  clear ho1 hb1 hB0 HE0 HP
  obtain ⟨q0, q1, q2, q3, q4⟩ := HE1.out.cells
  obtain ⟨z0, z2, z3, z4, z5⟩ : _ ∧ _ ∧ _ ∧ _ ∧ _ := ⟨HE1.out.fz 0, HE1.out.fz 1, HE1.out.fz 2, HE1.out.fz 3, HE1.out.fz 4⟩
  simp only [ent0] at q0 q1 q2 q3 q4
  by_cases h1 : n = 0
  case neg =>
    have e1 : (n != 0) = true := nt h1
    have hl : l = [] := HN.out h1
    have hr2 : r = (ent0, false) := by rw [HR.out, hl]; rfl
    clear h1
    go_wp2_with fail
    rw [hr2]
    exact find_exit rfl rfl rfl (HE1.out.set5 ent0) (below_set5 hB1 (Nat.le_refl _) ent0)
  case pos =>
  subst h1
  have HS := Lib.hid (sorted_of (HG.out rfl))
  clear q0 q1 q2 q3 q4 z0 z2 z3 z4 z5
  go_wp2_with fail
  refine (bs_any a1 l.length c1 l rfl hlen key seq false ByteArray.empty 0 HS.out _ R1.out).mono ?_
  rintro e w2 ⟨p, b, rfl, hp, hlo, hhi, hb2⟩
  have hB2 := chain hB1 hb2
  have HE2 := Lib.hid (HE1.out.below hb2)
  have R2 := Lib.hid (R1.out.below hb2)
  have HLO := Lib.hid hlo
  have HHI := Lib.hid hhi
  clear hb2 hB1 HE1 R1 hlo hhi
  obtain ⟨q0, q1, q2, q3, q4⟩ := HE2.out.cells
  obtain ⟨z0, z2, z3, z4, z5⟩ : _ ∧ _ ∧ _ ∧ _ ∧ _ := ⟨HE2.out.fz 0, HE2.out.fz 1, HE2.out.fz 2, HE2.out.fz 3, HE2.out.fz 4⟩
  simp only [ent0] at q0 q1 q2 q3 q4
  by_cases hpl : p < l.length
  · obtain ⟨ab, off, rfl, hab, hac⟩ := R2.out.at (by omega)
    have hd := hac p hpl
    obtain ⟨x, hx⟩ : ∃ x, x = l.getD p ent0 := ⟨_, rfl⟩
    rw [← hx] at hd
    have HX := Lib.hid hx
    have hne : ((p : Int) == (l.length : Int)) = false := ef (by omega)
    have i1 : (0 : Int) ≤ (p : Int) := by omega
    have i2 : (p : Int) < (l.length : Int) := by omega
    obtain ⟨k1, qq, g1, v1, u1⟩ := x
    simp only at hd
    obtain ⟨d0, d1, d2, d3, d4⟩ := hd
    clear hac hx
    by_cases hk : k1 = key
    · have hr2 := Lib.hid (show r = (⟨k1, qq, g1, v1, u1⟩, true) by
        rw [HR.out, found_here (g := false) (v := ByteArray.empty) (u := 0) p hpl HLO.out (HHI.out p (by omega) hpl) (by rw [← HX.out]; exact hk), ← HX.out])
      subst hk
      go_wp2_with fail
      rw [hr2.out]
      exact find_exit rfl rfl rfl (HE2.out.set5 ⟨k1, qq, g1, v1, u1⟩) (below_set5 hB2 (Nat.le_refl _) ⟨k1, qq, g1, v1, u1⟩)
    · have hr2 := Lib.hid (show r = (ent0, false) by
        rw [HR.out, found_not (g := false) (v := ByteArray.empty) (u := 0) HS.out p (fun k h1 h2 => HLO.out k h1) (fun h => ⟨HHI.out p (by omega) hpl, by rw [← HX.out]; exact hk⟩)])
      have hkk : (k1.toList == key.toList) = false := toList_ne hk
      clear hk
      go_wp2_with fail
      rw [hr2.out]
      exact find_exit rfl rfl rfl (HE2.out.set5 ent0) (below_set5 hB2 (Nat.le_refl _) ent0)
  · obtain rfl : p = l.length := by omega
    have hr2 := Lib.hid (show r = (ent0, false) by
      rw [HR.out, found_not (g := false) (v := ByteArray.empty) (u := 0) HS.out l.length (fun k h1 h2 => HLO.out k h1) (fun h => absurd h (by omega))])
    go_wp2_with fail
    rw [hr2.out]
    exact find_exit rfl rfl rfl (HE2.out.set5 ent0) (below_set5 hB2 (Nat.le_refl _) ent0)
end Go.Proofs.Ytimkopihjldhnaa.Ew
