/- The walk of the block's reader's entry. -/
import Derived.Test.YtpihmjdljbienaaGreatDoorParseG
import Derived.Test.YtpihmjdljbienaaGreatDoorGb
import Derived.Deep.RegionHeld3
import Derived.Deep.RegionHeld2
import Derived.Deep.DeepCutAuto
namespace Go.Proofs.YtpihmjdljbienaaGreatDoor.Ew
open Go.RowKit
open En B Vp Vw
set_option linter.unusedVariables false

/-- an entry, or the reason why there is none -/
def GotI (w : World) (rb : Nat) (s : ByteArray) (r : IR) (e : Ending) (w' : World) : Prop :=
  Only rb w w' ∧ ((r.e = 0 ∧ e = .returned r.x.v ∧ RBox w' rb s r.next) ∨ (r.e ≠ 0 ∧ e = pan 206 r.e ∧ ∃ b, RBox w' rb s b))

theorem ret_far {w : World} {rb g : Nat} {s : ByteArray} {a : Int} (h : RBox w rb s a) (hne : rb ≠ g) (x : Ent) : RBox (set5 w g 0 x) rb s a := by
  unfold RBox at h ⊢
  unfold set5
  rw [Below.heap_setCell _ _ _ rb (by exact hne), Below.heap_setCell _ _ _ rb (by exact hne), Below.heap_setCell _ _ _ rb (by exact hne), Below.heap_setCell _ _ _ rb (by exact hne), Below.heap_setCell _ _ _ rb (by exact hne)]
  exact h
theorem far5 {w : World} {g g' : Nat} {t : TypeId} {e : Ent} (h : EBox w g t e) (hne : g ≠ g') (x : Ent) : EBox (set5 w g' 0 x) g t e := by
  unfold set5
  exact ((((h.far (by exact hne) _).far (by exact hne) _).far (by exact hne) _).far (by exact hne) _).far (by exact hne) _
theorem only_set5g {w W : World} {rb g : Nat} (h : Only rb w W) (hg : w.heap.size ≤ g) (x : Ent) : Only rb w (set5 W g 0 x) :=
  ((((h.new (p := ⟨g, 0, Option.none⟩) hg _).new (p := ⟨g, 0 + 1, Option.none⟩) hg _).new (p := ⟨g, 0 + 2, Option.none⟩) hg _).new (p := ⟨g, 0 + 3, Option.none⟩) hg _).new (p := ⟨g, 0 + 4, Option.none⟩) hg _
theorem only_alloc {w W : World} {rb : Nat} (h : Only rb w W) (o : Obj) : Only rb w (W.alloc o) := h.trans (Only.of_below ((Below.refl _ _).alloc (Nat.le_refl _) _))
theorem only_set5 {w w' : World} {rb : Nat} (h : Only rb w w') (x : Ent) : Only rb w (set5 w' w.heap.size 0 x) :=
  ((((h.new (p := ⟨w.heap.size, 0, Option.none⟩) (Nat.le_refl _) _).new (p := ⟨w.heap.size, 0 + 1, Option.none⟩) (Nat.le_refl _) _).new (p := ⟨w.heap.size, 0 + 2, Option.none⟩) (Nat.le_refl _) _).new (p := ⟨w.heap.size, 0 + 3, Option.none⟩) (Nat.le_refl _) _).new (p := ⟨w.heap.size, 0 + 4, Option.none⟩) (Nat.le_refl _) _

theorem text_two {rb : Nat} {s : ByteArray} {a : Int} (hs : s.size ≤ 4611686018427387904) {g : GT} (hg : getT s a = g) (w : World) (hb : RBox w rb s a) : Calls Tryz.prog 155 #[.pointer (some ⟨rb, 0, none⟩)] w fun e w' =>
    (e = .returned (.string g.t) ∧ Hid (g.e = 0) ∧ RBox w' rb s g.next ∧ Only rb w w') ∨ (e = pan 206 g.e ∧ Hid (g.e ≠ 0) ∧ (∃ b, RBox w' rb s b) ∧ Only rb w w') := by
  by_cases h : g.e = 0
  · exact (text_ok hs hg h w hb).mono fun e w' h' => .inl ⟨h'.1, h, h'.2⟩
  · exact (text_bad hs hg h w hb).mono fun e w' h' => .inr ⟨h'.1, h, h'.2⟩
theorem number_two {rb : Nat} {s : ByteArray} {a : Int} (hs : s.size ≤ 4611686018427387904) {g : G} (hg : getS s a = g) (w : World) (hb : RBox w rb s a) : Calls Tryz.prog 154 #[.pointer (some ⟨rb, 0, none⟩)] w fun e w' =>
    (e = .returned (.int .i64 g.n) ∧ Hid (g.e = 0) ∧ RBox w' rb s g.next ∧ Only rb w w') ∨ (e = pan 206 g.e ∧ Hid (g.e ≠ 0) ∧ (∃ b, RBox w' rb s b) ∧ Only rb w w') := by
  by_cases h : g.e = 0
  · exact (number_ok hs hg h w hb).mono fun e w' h' => .inl ⟨h'.1, h, h'.2⟩
  · exact (number_bad hs hg h w hb).mono fun e w' h' => .inr ⟨h'.1, h, h'.2⟩

set_option maxHeartbeats 1600000 in
set_option maxRecDepth 100000 in
theorem entry_any (rb : Nat) (s : ByteArray) (a : Int) (hs : s.size ≤ 4611686018427387904) (last : ByteArray) (hla : last.size ≤ 4611686018427387904) (w : World) (hb : RBox w rb s a) :
    Calls Tryz.prog 131 #[.pointer (some ⟨rb, 0, none⟩), .string last] w (GotI w rb s (oneE s a last)) := by
  obtain ⟨r, hr⟩ : ∃ r, r = oneE s a last := ⟨_, rfl⟩
  rw [← hr]
  unfold oneE at hr
  obtain ⟨c, hc⟩ : ∃ c, c = cntB s a last.size 4 := ⟨_, rfl⟩
  rw [← hc] at hr
  obtain ⟨t, ht⟩ : ∃ t, t = getT s c.next := ⟨_, rfl⟩
  rw [← ht] at hr
  obtain ⟨q, hq⟩ : ∃ q, q = getS s t.next := ⟨_, rfl⟩
  rw [← hq] at hr
  obtain ⟨u, hu⟩ : ∃ u, u = cntB s q.next 9223372036854775807 0 := ⟨_, rfl⟩
  rw [← hu] at hr
  obtain ⟨v, hv⟩ : ∃ v, v = getT s u.next := ⟨_, rfl⟩
  rw [← hv] at hr
  have HR := Lib.hid hr
  have HB := Lib.hid hb
  have hrb := lt_of_block hb
  have hob : Only rb w (w.alloc (.cells #[.string ⟨#[]⟩, .int .i64 0, .bool false, .string ⟨#[]⟩, .int .i64 0] 45)) := Only.of_below ((Below.refl _ _).alloc (Nat.le_refl _) _)
  have HB0 : Hid (RBox (w.alloc (.cells #[.string ⟨#[]⟩, .int .i64 0, .bool false, .string ⟨#[]⟩, .int .i64 0] 45)) rb s a) := blk_alloc hb
  clear hr hb
  by_cases h1 : c.e = 0
  case neg =>
    obtain rfl : r = ⟨ent0, 0, c.e⟩ := by rw [HR.out, if_pos h1]
    have HT := Lib.hid (count_bad hs hc.symm h1 _ HB0.out)
    clear hc hv ht hq hu
    go_enter Tryz.func131, Tryz.ntmps131
    go_wp2_with fail
    refine HT.out.mono ?_
    rintro e w1 ⟨rfl, hx, ho⟩
    have HO := Lib.hid (hob.trans ho)
    have HX := Lib.hid hx
    clear hx ho
    go_wp2_with fail
    exact ⟨rfl, HO.out, .inr ⟨h1, rfl, HX.out⟩⟩
  case pos =>
  have HT := Lib.hid (count_ok hs hc.symm h1 _ HB0.out)
  rw [if_neg (by simp [h1])] at HR
  have hbd := cntB_bd (s := s) (a := a) (most := last.size) (above := 4) (by rw [← hc]; exact h1)
  rw [← hc] at hbd
  obtain ⟨c0, c9, c4⟩ := hbd
  have c5 := c4 (by decide)
  generalize c.n = m at HR HT c0 c9 c4 c5
  generalize c.next = cn at HR HT ht
  clear hc h1 c4
  have HER : Hid (EBox (w.alloc (.cells #[.string ⟨#[]⟩, .int .i64 0, .bool false, .string ⟨#[]⟩, .int .i64 0] 45)) w.heap.size 45 ent0) := EBox.new w 45 ent0
  go_enter Tryz.func131, Tryz.ntmps131
  go_wp2_with fail
  refine HT.out.mono ?_
  rintro e w1 ⟨rfl, hx1, ho1⟩
  have HXH : Hid (w1.heap[rb]? = some (.cells #[.string s, .int .i64 cn] 210 (0, 0))) := hx1
  have HO1 := Lib.hid (hob.trans ho1)
  have HER1 := Lib.hid (HER.out.only ho1 (by omega))
  have hlt1 : w.heap.size < w1.heap.size := by have := ho1.size; simp at this; omega
  clear hx1 ho1 hob HT HB0
  obtain ⟨mk, rfl⟩ : ∃ mk : Nat, m = mk := ⟨m.toNat, by omega⟩
  have d1 : (0 : Int) ≤ (mk : Int) := by omega
  have d2 : (mk : Int) ≤ (last.size : Int) := by omega
  have hts : t.t.size ≤ 65535 := by rw [ht]; exact txt_le s cn
  have HT1 : Hid (t.e ≠ 0 → r = ⟨ent0, 0, t.e⟩) := fun h => by rw [HR.out, if_pos h]
  have HT2 : Hid (t.e = 0 → q.e ≠ 0 → r = ⟨ent0, 0, q.e⟩) := fun h h' => by rw [HR.out, if_neg (by simp [h]), if_pos h']
  have HTT := Lib.hid (fun W hX => text_two (rb := rb) hs ht.symm W hX)
  have HQQ := Lib.hid (fun W hX => number_two (rb := rb) hs hq.symm W hX)
  obtain ⟨tt, tn, te⟩ := t
  obtain ⟨qn, qx, qe⟩ := q
  simp only at HR HTT HQQ hq hu hts HT1 HT2
  have hsum : ¬ (9223372036854775807 < (last.extract 0 mk).size + tt.size) := by rw [ByteArray.size_extract]; omega
  have hsum2 : ¬ (9223372036854775807 < min mk last.size + tt.size) := by omega
  have hsum3 : ¬ (9223372036854775807 < mk + tt.size) := by omega
  go_wp2_with fail
  go_cut [6] (fun s6 wx => ∃ g, s6 = .pointer (some ⟨g, 0, none⟩) ∧ Hid (EBox wx g 45 ⟨last.extract 0 mk ++ tt, qn, false, ByteArray.empty, 0⟩) ∧ Hid (RBox wx rb s qx) ∧ Hid (EBox wx w.heap.size 45 ent0) ∧ Hid (Only rb w wx) ∧ w.heap.size < g ∧ te = 0 ∧ qe = 0)
  case first =>
    go_region_held2 (fun w' => True)
      (trivial)
      (first
        | (go_at_call 155; refine (HTT.out _ ?_).mono ?_
           · unfold RBox; repeat (first | with_reducible exact HXH.out | with_reducible refine blk_drew ?_ | with_reducible refine blk_alloc ?_)
           rintro e w2 (⟨rfl, HT0, hx2, ho2⟩ | ⟨rfl, h9, hx2, ho2⟩)
           rotate_left
           · go_simp
             rw [HT1.out h9.out]
             first
               | exact ⟨rfl, HO1.out.drew.trans ho2, .inr ⟨h9.out, rfl, hx2⟩⟩
               | exact ⟨rfl, (only_alloc HO1.out.drew _).trans ho2, .inr ⟨h9.out, rfl, hx2⟩⟩)
        | (go_at_call 154; refine (HQQ.out _ ?_).mono ?_
           · unfold RBox at hx2 ⊢; repeat (first | with_reducible exact hx2 | with_reducible refine blk_drew ?_ | with_reducible refine blk_alloc ?_)
           rintro e w3 (⟨rfl, HQ0, hx3, ho3⟩ | ⟨rfl, h9, hx3, ho3⟩)
           rotate_left
           · go_simp
             rw [HT2.out HT0.out h9.out]
             first
               | exact ⟨rfl, (HO1.out.drew.trans ho2).trans ho3, .inr ⟨h9.out, rfl, hx3⟩⟩
               | exact ⟨rfl, ((only_alloc HO1.out.drew _).trans ho2).trans ho3, .inr ⟨h9.out, rfl, hx3⟩⟩
               | exact ⟨rfl, (only_alloc (HO1.out.drew.trans ho2) _).trans ho3, .inr ⟨h9.out, rfl, hx3⟩⟩
           first
             | (have hE3 : EBox w3 w2.heap.size 45 ent0 := (EBox.new w2 45 ent0).only ho3 (by have := ho2.size; simp at this; omega)
                have f0 := hE3.fz 0
                have f1 := hE3.fz 1
                have f2 := hE3.fz 2
                have f3 := hE3.fz 3
                have f4 := hE3.fz 4
                obtain ⟨j0, j1, j2, j3, j4⟩ := hE3.cells)
             | (have hE3 : EBox w3 w1.heap.size 45 ent0 := ((EBox.new w1.drew 45 ent0).only ho2 (by show w1.heap.size ≠ rb; omega)).only ho3 (by show w1.heap.size ≠ rb; omega)
                have f0 := hE3.fz 0
                have f1 := hE3.fz 1
                have f2 := hE3.fz 2
                have f3 := hE3.fz 3
                have f4 := hE3.fz 4
                obtain ⟨j0, j1, j2, j3, j4⟩ := hE3.cells)
             | skip))
    all_goals
      have n1 := ho2.size
      have n2 := ho3.size
      try simp only [heap_drew, World.size_alloc] at n1
      try simp only [World.size_alloc] at n2
    · have HOZ := only_alloc ((HO1.out.drew.trans ho2).trans ho3) (.cells #[.string (last.extract 0 mk ++ tt), .int .i64 qn, .bool false, .string ⟨#[]⟩, .int .i64 0] 45)
      have HEZ := EBox.new w3 45 ⟨last.extract 0 mk ++ tt, qn, false, ByteArray.empty, 0⟩
      go_wp2_with fail
      go_meet
      exact ⟨w3.heap.size, rfl, HEZ, blk_alloc hx3, blk_alloc (((show EBox w1.drew _ _ _ from HER1.out).only ho2 (by omega)).only ho3 (by omega)), HOZ, by omega, HT0.out, HQ0.out⟩
    · have HOZ := only_set5g ((only_alloc (HO1.out.drew.trans ho2) _).trans ho3) (g := w2.heap.size) (by omega) ⟨last.extract 0 mk ++ tt, qn, false, ByteArray.empty, 0⟩
      have HEZ := hE3.set5 ⟨last.extract 0 mk ++ tt, qn, false, ByteArray.empty, 0⟩
      have HXZ := ret_far hx3 (show rb ≠ w2.heap.size by omega) ⟨last.extract 0 mk ++ tt, qn, false, ByteArray.empty, 0⟩
      have HRZ := far5 (EBox.only (show EBox (w2.alloc _) _ _ _ from blk_alloc ((show EBox w1.drew _ _ _ from HER1.out).only ho2 (by omega))) ho3 (by omega)) (show w.heap.size ≠ w2.heap.size by omega) ⟨last.extract 0 mk ++ tt, qn, false, ByteArray.empty, 0⟩
      go_wp2_with fail
      go_meet
      exact ⟨w2.heap.size, rfl, HEZ, HXZ, HRZ, HOZ, by omega, HT0.out, HQ0.out⟩
    · have HOZ := only_set5g (((only_alloc HO1.out.drew _).trans ho2).trans ho3) (g := w1.heap.size) (by omega) ⟨last.extract 0 mk ++ tt, qn, false, ByteArray.empty, 0⟩
      have HEZ := hE3.set5 ⟨last.extract 0 mk ++ tt, qn, false, ByteArray.empty, 0⟩
      have HXZ := ret_far hx3 (show rb ≠ w1.heap.size by omega) ⟨last.extract 0 mk ++ tt, qn, false, ByteArray.empty, 0⟩
      have HRZ := far5 (EBox.only (EBox.only (show EBox (w1.drew.alloc _) _ _ _ from blk_alloc (show EBox w1.drew _ _ _ from HER1.out)) ho2 (by omega)) ho3 (by omega)) (show w.heap.size ≠ w1.heap.size by omega) ⟨last.extract 0 mk ++ tt, qn, false, ByteArray.empty, 0⟩
      go_wp2_with fail
      go_meet
      exact ⟨w1.heap.size, rfl, HEZ, HXZ, HRZ, HOZ, by omega, HT0.out, HQ0.out⟩
  case rest =>
  obtain ⟨g, rfl, HEE, HX, HER, HO, hlt, rfl, rfl⟩ := hcut
  rw [if_neg (by simp), if_neg (by simp)] at HR
  clear HXH HO1 HER1 hsum hsum2 hsum3 HTT HQQ ht hq HT1 HT2
  rw [Int.toNat_natCast] at HR
  generalize last.extract 0 mk ++ tt = key at HR HEE
  by_cases h5 : u.e = 0
  case neg =>
    obtain rfl : r = ⟨ent0, 0, u.e⟩ := by rw [HR.out, if_pos h5]
    have HT := Lib.hid (count_bad hs hu.symm h5 _ HX.out)
    clear hu hv
    go_wp2_with fail
    refine HT.out.mono ?_
    rintro e w2 ⟨rfl, hx, ho⟩
    have HO2 := Lib.hid (HO.out.trans ho)
    have HX2 := Lib.hid hx
    clear hx ho
    go_wp2_with fail
    exact ⟨rfl, HO2.out, .inr ⟨h5, rfl, HX2.out⟩⟩
  case pos =>
  have HT := Lib.hid (count_ok hs hu.symm h5 _ HX.out)
  rw [if_neg (by simp [h5])] at HR
  have hub := cntB_bd (s := s) (a := qx) (most := 9223372036854775807) (above := 0) (by rw [← hu]; exact h5)
  rw [← hu] at hub
  obtain ⟨hm0, hm9, _⟩ := hub
  generalize u.n = m at HR HT hm0 hm9
  generalize u.next = un at HR HT hv
  clear hu h5
  go_wp2_with fail
  refine HT.out.mono ?_
  rintro e w2 ⟨rfl, hx2, ho2⟩
  have HX2 := Lib.hid hx2
  have HER2 := Lib.hid (HER.out.only ho2 (by omega))
  have HEE2 := Lib.hid (HEE.out.only ho2 (by omega))
  have HO2 := Lib.hid (HO.out.trans ho2)
  clear hx2 ho2
  obtain ⟨k0, k1, k2, k3, k4⟩ := HEE2.out.cells
  have f2 := HEE2.out.fz 2
  have HV := Lib.hid hv
  clear hv
  by_cases h3 : m = 0
  case pos =>
    subst h3
    rw [if_pos rfl] at HR
    obtain rfl := HR.out
    obtain ⟨q0, q1, q2, q3, q4⟩ := (HER2.out.far (p := ⟨g, 2, Option.none⟩) (by show w.heap.size ≠ g; omega) (.bool true)).cells
    obtain ⟨p0, p1, p2, p3, p4⟩ := (HEE2.out.set2 true).cells
    have hz := HER2.out.far (p := ⟨g, 2, Option.none⟩) (by show w.heap.size ≠ g; omega) (.bool true)
    obtain ⟨z0, z1, z2, z3, z4⟩ : _ ∧ _ ∧ _ ∧ _ ∧ _ := ⟨hz.fz 0, hz.fz 1, hz.fz 2, hz.fz 3, hz.fz 4⟩
    go_wp2_with fail
    generalize hV : World.setCell _ _ _ = W5
    have hE5 : EBox W5 w.heap.size 45 ⟨key, qn, true, ByteArray.empty, 0⟩ := by rw [← hV]; exact hz.set5 ⟨key, qn, true, ByteArray.empty, 0⟩
    have hX5 : RBox W5 rb s un := by rw [← hV]; exact ret_far ((Below.heap_setCell _ _ _ rb (by show rb ≠ g; omega)).trans HX2.out) (by omega) ⟨key, qn, true, ByteArray.empty, 0⟩
    have hO5 : Only rb w W5 := by rw [← hV]; exact only_set5 (HO2.out.new (p := ⟨g, 2, Option.none⟩) (by show w.heap.size ≤ g; omega) _) ⟨key, qn, true, ByteArray.empty, 0⟩
    obtain ⟨c0, c1, c2, c3, c4⟩ := hE5.cells
    clear hV
    refine bodyPost_ret (v := .agg #[.string key, .int .i64 qn, .bool true, .string ByteArray.empty, .int .i64 0]) ?_ rfl ?_
    · simp [results, Tryz.results131, go_sem, c0, c1, c2, c3, c4]
    · exact ⟨hO5, .inl ⟨rfl, rfl, hX5⟩⟩
  case neg =>
    have e3 : (m == 0) = false := ef h3
    have hm1 : 1 ≤ m := by omega
    rw [if_neg h3] at HR
    clear h3 f2
    by_cases h5 : v.e = 0
    case neg =>
      obtain rfl : r = ⟨ent0, 0, v.e⟩ := by rw [HR.out, if_pos h5]
      have HT := Lib.hid (text_bad hs HV.out.symm h5 _ HX2.out)
      go_wp2_with fail
      refine HT.out.mono ?_
      rintro e w3 ⟨rfl, hx, ho⟩
      have HO := Lib.hid (HO2.out.trans ho)
      have HX := Lib.hid hx
      clear hx ho
      go_wp2_with fail
      exact ⟨rfl, HO.out, .inr ⟨h5, rfl, HX.out⟩⟩
    case pos =>
    rw [if_neg (by simp [h5])] at HR
    have HT := Lib.hid (text_ok hs HV.out.symm h5 _ HX2.out)
    generalize v.t = vt at HR HT
    generalize v.next = vn at HR HT
    obtain rfl := HR.out
    clear h5 k0 k1 k2 k3 k4
    go_wp2_with fail
    refine HT.out.mono ?_
    rintro e w9 ⟨rfl, hx9, ho9⟩
    have HX9 := Lib.hid hx9
    have HER9 := Lib.hid (HER2.out.only ho9 (by omega))
    have HEE9 := Lib.hid (HEE2.out.only ho9 (by omega))
    have HO9 := Lib.hid (HO2.out.trans ho9)
    clear hx9 ho9
    obtain ⟨k0, k1, k2, k3, k4⟩ := HEE9.out.cells
    have f4 := HEE9.out.fz 4
    have HE1 := HEE9.out.set4 (m - 1)
    have f3 := HE1.fz 3
    obtain ⟨p0, p1, p2, p3, p4⟩ := HE1.cells
    have HE2 := HE1.set3 vt
    obtain ⟨o0, o1, o2, o3, o4⟩ := HE2.cells
    have hz := (HER9.out.far (p := ⟨g, 4, Option.none⟩) (by show w.heap.size ≠ g; omega) (.int .i64 (m - 1))).far (p := ⟨g, 3, Option.none⟩) (by show w.heap.size ≠ g; omega) (.string vt)
    obtain ⟨q0, q1, q2, q3, q4⟩ := hz.cells
    obtain ⟨z0, z1, z2, z3, z4⟩ : _ ∧ _ ∧ _ ∧ _ ∧ _ := ⟨hz.fz 0, hz.fz 1, hz.fz 2, hz.fz 3, hz.fz 4⟩
    simp only at k0 k1 k2 k3 k4 p0 p1 p2 p3 p4 o0 o1 o2 o3 o4
    go_wp2_with fail
    generalize hV : World.setCell _ _ _ = W5
    have hE5 : EBox W5 w.heap.size 45 ⟨key, qn, false, vt, m - 1⟩ := by rw [← hV]; exact hz.set5 ⟨key, qn, false, vt, m - 1⟩
    have hX5 : RBox W5 rb s vn := by rw [← hV]; exact ret_far ((Below.heap_setCell _ _ _ rb (by show rb ≠ g; omega)).trans ((Below.heap_setCell _ _ _ rb (by show rb ≠ g; omega)).trans HX9.out)) (by omega) ⟨key, qn, false, vt, m - 1⟩
    have hO5 : Only rb w W5 := by rw [← hV]; exact only_set5 ((HO9.out.new (p := ⟨g, 4, Option.none⟩) (by show w.heap.size ≤ g; omega) _).new (p := ⟨g, 3, Option.none⟩) (by show w.heap.size ≤ g; omega) _) ⟨key, qn, false, vt, m - 1⟩
    obtain ⟨c0, c1, c2, c3, c4⟩ := hE5.cells
    clear hV
    refine bodyPost_ret (v := .agg #[.string key, .int .i64 qn, .bool false, .string vt, .int .i64 (m - 1)]) ?_ rfl ?_
    · simp [results, Tryz.results131, go_sem, c0, c1, c2, c3, c4]
    · exact ⟨hO5, .inl ⟨rfl, rfl, hX5⟩⟩
end Go.Proofs.YtpihmjdljbienaaGreatDoor.Ew
