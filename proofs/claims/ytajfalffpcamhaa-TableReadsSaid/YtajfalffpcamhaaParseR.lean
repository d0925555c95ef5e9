/- The walk of the reference's one: an entry among bytes. -/
import Derived.Test.YtajfalffpcamhaaGa
import Derived.Test.YtajfalffpcamhaaVarRef
import Derived.Test.YtajfalffpcamhaaGb
namespace Go.Proofs.Ytajfalffpcamhaa.Ew
open Go.RowKit
open En B Vp Vw
set_option linter.unusedVariables false

/-- an entry, the place behind it, the error -/
def OneR (w : World) (r : IR) (e : Ending) (w' : World) : Prop :=
  e = .returned (.tuple #[r.x.v, .int .i64 r.next, .int .i64 r.e]) ∧ Below w.heap.size w w'
theorem one_exit {w W : World} {T : Array Value} {r : IR} (h6 : T.getD 6 undef = .pointer (some ⟨w.heap.size, 0, none⟩)) (h7 : T.getD 7 undef = .int .i64 r.next) (h8 : T.getD 8 undef = .int .i64 r.e)
    (hE : EBox W w.heap.size 56 r.x) (hB : Below w.heap.size w W) :
    bodyPost Try.prog Try.f89 (OneR w r) .ret { tmps := T, defers := [] } W := by
  obtain ⟨c0, c1, c2, c3, c4⟩ := hE.cells
  simp [Array.getD_eq_getD_getElem?] at h6 h7 h8
  refine bodyPost_ret (v := .tuple #[r.x.v, .int .i64 r.next, .int .i64 r.e]) ?_ rfl ⟨rfl, hB⟩
  simp [results, Try.results89, go_sem, c0, c1, c2, c3, c4, h6, h7, h8, Ent.v]

theorem cntB_form {s : ByteArray} {a most above : Int} (h : (getS s a).e = 0) (h2 : (getS s a).n < 0) : cntB s a most above = ⟨0, 0, 4⟩ := by unfold cntB; rw [if_neg (by simp [h]), if_pos h2]
theorem cntB_bad {s : ByteArray} {a most above : Int} (h : (getS s a).e ≠ 0) : cntB s a most above = ⟨0, 0, (getS s a).e⟩ := by unfold cntB; rw [if_pos h]
theorem cntB_most {s : ByteArray} {a most above : Int} (h : (getS s a).e = 0) (h2 : ¬ (getS s a).n < 0) (h3 : most < (getS s a).n) (h4 : above ≠ 0) : cntB s a most above = ⟨0, 0, above⟩ := by
  unfold cntB; rw [if_neg (by simp [h]), if_neg h2, if_pos ⟨h3, h4⟩]
theorem cntB_same {s : ByteArray} {a most above : Int} (h : (getS s a).e = 0) (h2 : ¬ (getS s a).n < 0) (h3 : ¬ (most < (getS s a).n ∧ above ≠ 0)) : cntB s a most above = getS s a := by
  unfold cntB; rw [if_neg (by simp [h]), if_neg h2, if_neg h3]

set_option maxHeartbeats 1600000 in
set_option maxRecDepth 100000 in
theorem one_any (s : ByteArray) (hs : s.size ≤ 4611686018427387904) (a : Int) (last : ByteArray) (hla : last.size ≤ 4611686018427387904) (w : World) :
    Calls Try.prog 89 #[.string s, .int .i64 a, .string last] w (OneR w (oneE s a last)) := by
  obtain ⟨r, hr⟩ : ∃ r, r = oneE s a last := ⟨_, rfl⟩
  rw [← hr]
  unfold oneE at hr
  obtain ⟨c, hc⟩ : ∃ c, c = cntB s a last.size 4 := ⟨_, rfl⟩
  rw [← hc] at hr
  obtain ⟨t, ht⟩ : ∃ t, t = getT s c.next := ⟨_, rfl⟩
  rw [← ht] at hr
  obtain ⟨q, hq⟩ : ∃ q, q = getS s t.next := ⟨_, rfl⟩
  rw [← hq] at hr
  obtain ⟨u, hu⟩ : ∃ u, u = cntB s q.next 9223372036854775807 0 := ⟨_, rfl⟩
  rw [← hu] at hr
  obtain ⟨v, hv⟩ : ∃ v, v = getT s u.next := ⟨_, rfl⟩
  rw [← hv] at hr
  have HR := Lib.hid hr
  have HG := Lib.hid (fun W : World => rget_any s a hs W)
  obtain ⟨g, hg⟩ : ∃ g, g = getS s a := ⟨_, rfl⟩
  rw [← hg] at HG
  have HGG := Lib.hid hg
  obtain ⟨gn, gx, ge⟩ := g
  simp only [ret3] at HG
  clear hr hg
  have hB0 : Below w.heap.size w ((w.alloc (.cells #[.string ⟨#[]⟩, .int .i64 0, .bool false, .string ⟨#[]⟩, .int .i64 0] 56)).alloc (.cells #[.string ⟨#[]⟩, .int .i64 0, .bool false, .string ⟨#[]⟩, .int .i64 0] 56)) :=
    below_alloc (below_alloc (Below.refl _ _) _) _
  have hE6 : EBox ((w.alloc (.cells #[.string ⟨#[]⟩, .int .i64 0, .bool false, .string ⟨#[]⟩, .int .i64 0] 56)).alloc (.cells #[.string ⟨#[]⟩, .int .i64 0, .bool false, .string ⟨#[]⟩, .int .i64 0] 56)) w.heap.size 56 ent0 := blk_alloc (EBox.new w 56 ent0)
  have hE9 : EBox ((w.alloc (.cells #[.string ⟨#[]⟩, .int .i64 0, .bool false, .string ⟨#[]⟩, .int .i64 0] 56)).alloc (.cells #[.string ⟨#[]⟩, .int .i64 0, .bool false, .string ⟨#[]⟩, .int .i64 0] 56)) (w.heap.size + 1) 56 ent0 := blk_new (by simp)
  go_enter Try.func89, Try.ntmps89
  go_wp2_with fail
  generalize hW : World.alloc _ _ = W0
  rw [hW] at hB0 hE6 hE9
  clear hW
  have hB := hB0
  have HE6 := Lib.hid hE6
  have HE9 := Lib.hid hE9
  obtain ⟨k0, k1, k2, k3, k4⟩ := hE9.cells
  obtain ⟨q0, q1, q2, q3, q4⟩ := hE6.cells
  obtain ⟨z0, z1, z2, z3, z4⟩ : _ ∧ _ ∧ _ ∧ _ ∧ _ := ⟨hE6.fz 0, hE6.fz 1, hE6.fz 2, hE6.fz 3, hE6.fz 4⟩
  have hl6 := lt_of_block hE6
  clear hE6 hE9 hB0
  simp only [ent0] at k0 k1 k2 k3 k4 q0 q1 q2 q3 q4
  refine (HG.out _).mono ?_
  rintro e w1 ⟨rfl, rfl⟩
  by_cases h1 : ge = 0
  case neg =>
    have hc1 := cntB_bad (s := s) (a := a) (most := last.size) (above := 4) (by rw [← HGG.out]; exact h1)
    have hr := Lib.hid (show r = ⟨ent0, 0, ge⟩ by rw [HR.out, hc, hc1, ← HGG.out, if_pos h1])
    have e1 : (ge != 0) = true := nt h1
    clear hc1 hc ht hq hu hv h1
    go_wp2_with fail
    rw [hr.out]
    exact one_exit rfl rfl rfl (HE6.out.set5 ent0) (below_set5 hB (Nat.le_refl _) ent0)
  case pos =>
  subst h1
  by_cases h2 : gn < 0
  case pos =>
    have hc1 := cntB_form (s := s) (a := a) (most := last.size) (above := 4) (by rw [← HGG.out]) (by rw [← HGG.out]; exact h2)
    have hr := Lib.hid (show r = ⟨ent0, 0, 4⟩ by rw [HR.out, hc, hc1, if_pos (by decide)])
    clear hc1 hc ht hq hu hv
    go_wp2_with fail
    rw [hr.out]
    exact one_exit rfl rfl rfl (HE6.out.set5 ent0) (below_set5 hB (Nat.le_refl _) ent0)
  case neg =>
  by_cases h3 : (last.size : Int) < gn
  case pos =>
    have hc1 := cntB_most (s := s) (a := a) (most := last.size) (above := 4) (by rw [← HGG.out]) (by rw [← HGG.out]; exact h2) (by rw [← HGG.out]; exact h3) (by decide)
    have hr := Lib.hid (show r = ⟨ent0, 0, 4⟩ by rw [HR.out, hc, hc1, if_pos (by decide)])
    clear hc1 hc ht hq hu hv
    go_wp2_with fail
    rw [hr.out]
    exact one_exit rfl rfl rfl (HE6.out.set5 ent0) (below_set5 hB (Nat.le_refl _) ent0)
  case neg =>
  have hcc : c = ⟨gn, gx, 0⟩ := by
    rw [hc, cntB_same (by rw [← HGG.out]) (by rw [← HGG.out]; exact h2) (by rw [← HGG.out]; exact fun hh => h3 hh.1), ← HGG.out]
  clear hc
  rw [hcc] at HR ht
  rw [if_neg (by simp)] at HR
  simp only at HR ht
  clear hcc HGG HG
  obtain ⟨mk, rfl⟩ : ∃ mk : Nat, gn = mk := ⟨gn.toNat, by omega⟩
  rw [Int.toNat_natCast] at HR
  have d1 : (0 : Int) ≤ (mk : Int) := by omega
  have d2 : (mk : Int) ≤ (last.size : Int) := by omega
  have f1 : decide ((mk : Int) < 0) = false := df (by omega)
  have f2 : decide ((last.size : Int) < (mk : Int)) = false := df (by omega)
  clear h2 h3
  have HT := Lib.hid (fun W : World => rgetText_any s gx hs W)
  have htl := txt_le s gx
  rw [← ht] at HT htl
  clear ht
  obtain ⟨tt, tn, te⟩ := t
  simp only [retT] at HT HR hq htl
  go_wp2_with fail
  refine (HT.out _).mono ?_
  rintro e w1 ⟨rfl, rfl⟩
  clear HT
  by_cases h1 : te = 0
  case neg =>
    have hr := Lib.hid (show r = ⟨ent0, 0, te⟩ by rw [HR.out, if_pos h1])
    have e1 : (te != 0) = true := nt h1
    clear hq hu hv h1
    go_wp2_with fail
    rw [hr.out]
    exact one_exit rfl rfl rfl (HE6.out.set5 ent0) (below_set5 hB (Nat.le_refl _) ent0)
  case pos =>
  subst h1
  rw [if_neg (by simp)] at HR
  have HT := Lib.hid (fun W : World => rget_any s tn hs W)
  rw [← hq] at HT
  clear hq
  obtain ⟨qn, qx, qe⟩ := q
  simp only [ret3] at HT HR hu
  go_wp2_with fail
  refine (HT.out _).mono ?_
  rintro e w1 ⟨rfl, rfl⟩
  clear HT
  by_cases h1 : qe = 0
  case neg =>
    have hr := Lib.hid (show r = ⟨ent0, 0, qe⟩ by rw [HR.out, if_pos h1])
    have e1 : (qe != 0) = true := nt h1
    clear hu hv h1
    go_wp2_with fail
    rw [hr.out]
    exact one_exit rfl rfl rfl (HE6.out.set5 ent0) (below_set5 hB (Nat.le_refl _) ent0)
  case pos =>
  subst h1
  rw [if_neg (by simp)] at HR
  have HT := Lib.hid (fun W : World => rget_any s qx hs W)
  obtain ⟨g, hg⟩ : ∃ g, g = getS s qx := ⟨_, rfl⟩
  rw [← hg] at HT
  have HGG := Lib.hid hg
  obtain ⟨gn, gx2, ge⟩ := g
  simp only [ret3] at HT
  clear hg
  go_wp2_with fail
  refine (HT.out _).mono ?_
  rintro e w1 ⟨rfl, rfl⟩
  clear HT
  by_cases h1 : ge = 0
  case neg =>
    have hc1 := cntB_bad (s := s) (a := qx) (most := 9223372036854775807) (above := 0) (by rw [← HGG.out]; exact h1)
    have hr := Lib.hid (show r = ⟨ent0, 0, ge⟩ by rw [HR.out, hu, hc1, ← HGG.out, if_pos h1])
    have e1 : (ge != 0) = true := nt h1
    clear hc1 hu hv h1
    go_wp2_with fail
    rw [hr.out]
    exact one_exit rfl rfl rfl (HE6.out.set5 ent0) (below_set5 hB (Nat.le_refl _) ent0)
  case pos =>
  subst h1
  by_cases h2 : gn < 0
  case pos =>
    have hc1 := cntB_form (s := s) (a := qx) (most := 9223372036854775807) (above := 0) (by rw [← HGG.out]) (by rw [← HGG.out]; exact h2)
    have hr := Lib.hid (show r = ⟨ent0, 0, 4⟩ by rw [HR.out, hu, hc1, if_pos (by decide)])
    clear hc1 hu hv
    go_wp2_with fail
    rw [hr.out]
    exact one_exit rfl rfl rfl (HE6.out.set5 ent0) (below_set5 hB (Nat.le_refl _) ent0)
  case neg =>
  have hcc : u = ⟨gn, gx2, 0⟩ := by
    rw [hu, cntB_same (by rw [← HGG.out]) (by rw [← HGG.out]; exact h2) (fun hh => hh.2 rfl), ← HGG.out]
  have hub := cntB_bd (s := s) (a := qx) (most := 9223372036854775807) (above := 0) (by rw [← hu, hcc])
  rw [← hu, hcc] at hub
  obtain ⟨hm0, hm9, _⟩ := hub
  simp only at hm0 hm9
  clear hu
  rw [hcc] at HR hv
  rw [if_neg (by simp)] at HR
  simp only at HR hv
  clear hcc HGG
  have f3 : decide (gn < 0) = false := df h2
  clear h2
  have hsum : ¬ (9223372036854775807 < (last.extract 0 mk).size + tt.size) := by rw [ByteArray.size_extract]; omega
  have hsum2 : ¬ (9223372036854775807 < min mk last.size + tt.size) := by omega
  have hsum3 : ¬ (9223372036854775807 < mk + tt.size) := by omega
  by_cases h3 : gn = 0
  case pos =>
    subst h3
    rw [if_pos rfl] at HR
    go_wp2_with fail
    rw [HR.out]
    exact one_exit rfl rfl rfl (blk_alloc (HE6.out.set5 ⟨last.extract 0 mk ++ tt, qn, true, ByteArray.empty, 0⟩)) (below_alloc (below_set5 hB (Nat.le_refl _) ⟨last.extract 0 mk ++ tt, qn, true, ByteArray.empty, 0⟩) _)
  case neg =>
    have e3 : (gn == 0) = false := ef h3
    rw [if_neg h3] at HR
    have HT := Lib.hid (fun W : World => rgetText_any s gx2 hs W)
    rw [← hv] at HT
    clear hv
    obtain ⟨vt, vn, ve⟩ := v
    simp only [retT] at HT HR
    go_wp2_with fail
    have hlk : w.heap.size + 1 < W0.heap.size := lt_of_block HE9.out
    generalize hV : World.alloc W0 _ = W3
    have HEX : Hid (EBox W3 W0.heap.size 56 ⟨last.extract 0 mk ++ tt, qn, false, ByteArray.empty, 0⟩) := by rw [← hV]; exact EBox.new W0 56 ⟨last.extract 0 mk ++ tt, qn, false, ByteArray.empty, 0⟩
    have HE6b : Hid (EBox W3 w.heap.size 56 ent0) := by rw [← hV]; exact blk_alloc HE6.out
    have HE9b : Hid (EBox W3 (w.heap.size + 1) 56 ent0) := by rw [← hV]; exact blk_alloc HE9.out
    have hB3 : Below w.heap.size w W3 := by rw [← hV]; exact below_alloc hB _
    generalize W0.heap.size = gg at hlk HEX
    clear hV k0 k1 k2 k3 k4 q0 q1 q2 q3 q4 z0 z1 z2 z3 z4 HE6 HE9 hB hl6 W0
    obtain ⟨k0, k1, k2, k3, k4⟩ := HE9b.out.cells
    obtain ⟨q0, q1, q2, q3, q4⟩ := HE6b.out.cells
    obtain ⟨z0, z1, z2, z3, z4⟩ : _ ∧ _ ∧ _ ∧ _ ∧ _ := ⟨HE6b.out.fz 0, HE6b.out.fz 1, HE6b.out.fz 2, HE6b.out.fz 3, HE6b.out.fz 4⟩
    simp only [ent0] at k0 k1 k2 k3 k4 q0 q1 q2 q3 q4
    refine (HT.out _).mono ?_
    rintro e w1 ⟨rfl, rfl⟩
    clear HT
    by_cases h1 : ve = 0
    case neg =>
      have hr := Lib.hid (show r = ⟨ent0, 0, ve⟩ by rw [HR.out, if_pos h1])
      have e1 : (ve != 0) = true := nt h1
      clear h1
      go_wp2_with fail
      rw [hr.out]
      exact one_exit rfl rfl rfl (HE6b.out.set5 ent0) (below_set5 hB3 (Nat.le_refl _) ent0)
    case pos =>
    subst h1
    rw [if_neg (by simp)] at HR
    have HX1 := HEX.out.set4 (gn - 1)
    have HX2 := HX1.set3 vt
    obtain ⟨p0, p1, p2, p3, p4⟩ := HEX.out.cells
    obtain ⟨o0, o1, o2, o3, o4⟩ := HX1.cells
    obtain ⟨n0, n1, n2, n3, n4⟩ := HX2.cells
    have y4 := HEX.out.fz 4
    have y3 := HX1.fz 3
    have hz := Lib.hid ((HE6b.out.far (p := ⟨gg, 4, Option.none⟩) (by show w.heap.size ≠ gg; omega) (.int .i64 (gn - 1))).far (p := ⟨gg, 3, Option.none⟩) (by show w.heap.size ≠ gg; omega) (.string vt))
    obtain ⟨j0, j1, j2, j3, j4⟩ := hz.out.cells
    obtain ⟨x0, x1, x2, x3, x4⟩ : _ ∧ _ ∧ _ ∧ _ ∧ _ := ⟨hz.out.fz 0, hz.out.fz 1, hz.out.fz 2, hz.out.fz 3, hz.out.fz 4⟩
    simp only [ent0] at p0 p1 p2 p3 p4 o0 o1 o2 o3 o4 n0 n1 n2 n3 n4 j0 j1 j2 j3 j4
    go_wp2_with fail
    rw [HR.out]
    exact one_exit rfl rfl rfl (hz.out.set5 ⟨last.extract 0 mk ++ tt, qn, false, vt, gn - 1⟩) (below_set5 ((hB3.setCell (p := ⟨gg, 4, Option.none⟩) (by show w.heap.size ≤ gg; omega) _).setCell (p := ⟨gg, 3, Option.none⟩) (by show w.heap.size ≤ gg; omega) _) (Nat.le_refl _) ⟨last.extract 0 mk ++ tt, qn, false, vt, gn - 1⟩)
end Go.Proofs.Ytajfalffpcamhaa.Ew
