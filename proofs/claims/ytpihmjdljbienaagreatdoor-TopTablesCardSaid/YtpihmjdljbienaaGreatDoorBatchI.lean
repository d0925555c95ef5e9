/- The walk of the batch's reader's item. -/
import Derived.Test.YtpihmjdljbienaaGreatDoorBatchG
import Derived.Test.YtpihmjdljbienaaGreatDoorGb
namespace Go.Proofs.YtpihmjdljbienaaGreatDoor.Bw
open Ew
open Go.RowKit
open En B Vp Vw
set_option linter.unusedVariables false

section
variable {rb : Nat} {s : ByteArray} {a : Int} (hs : s.size ≤ 4611686018427387904)
include hs
theorem text_ok {g : GT} (hg : getT s a = g) (h : g.e = 0) (w : World) (hb : RBox w rb s a) : Calls Tryz.prog 103 #[.pointer (some ⟨rb, 0, none⟩)] w fun e w' => e = .returned (.string g.t) ∧ RBox w' rb s g.next ∧ Only rb w w' := by
  subst hg
  refine (text_any rb s a hs w hb).mono ?_
  rintro e w' ⟨b, h1, h2, ⟨_, h4, rfl⟩ | ⟨h3, _⟩⟩
  · exact ⟨h4, h1, h2⟩
  · exact absurd h h3
theorem text_bad {g : GT} (hg : getT s a = g) (h : g.e ≠ 0) (w : World) (hb : RBox w rb s a) : Calls Tryz.prog 103 #[.pointer (some ⟨rb, 0, none⟩)] w fun e w' => e = pan 94 g.e ∧ (∃ b, RBox w' rb s b) ∧ Only rb w w' := by
  subst hg
  refine (text_any rb s a hs w hb).mono ?_
  rintro e w' ⟨b, h1, h2, ⟨h3, _⟩ | ⟨_, h4⟩⟩
  · exact absurd h3 h
  · exact ⟨h4, ⟨b, h1⟩, h2⟩
theorem count_ok {g : G} (hg : cntS s a = g) (h : g.e = 0) (w : World) (hb : RBox w rb s a) : Calls Tryz.prog 51 #[.pointer (some ⟨rb, 0, none⟩)] w fun e w' => e = .returned (.int .i64 g.n) ∧ RBox w' rb s g.next ∧ Only rb w w' := by
  subst hg
  refine (count_any rb s a hs w hb).mono ?_
  rintro e w' ⟨b, h1, h2, ⟨_, h4, rfl⟩ | ⟨h3, _⟩⟩
  · exact ⟨h4, h1, h2⟩
  · exact absurd h h3
theorem count_bad {g : G} (hg : cntS s a = g) (h : g.e ≠ 0) (w : World) (hb : RBox w rb s a) : Calls Tryz.prog 51 #[.pointer (some ⟨rb, 0, none⟩)] w fun e w' => e = pan 94 g.e ∧ (∃ b, RBox w' rb s b) ∧ Only rb w w' := by
  subst hg
  refine (count_any rb s a hs w hb).mono ?_
  rintro e w' ⟨b, h1, h2, ⟨h3, _⟩ | ⟨_, h4⟩⟩
  · exact absurd h3 h
  · exact ⟨h4, ⟨b, h1⟩, h2⟩
end

/-- an item, or the reason why there is none -/
def GotI (w : World) (rb : Nat) (s : ByteArray) (r : IR) (e : Ending) (w' : World) : Prop :=
  Only rb w w' ∧ ((r.e = 0 ∧ e = .returned r.x.v ∧ RBox w' rb s r.next) ∨ (r.e ≠ 0 ∧ e = pan 94 r.e ∧ ∃ b, RBox w' rb s b))

theorem ret_far {w : World} {rb g : Nat} {s : ByteArray} {a : Int} (h : RBox w rb s a) (hne : rb ≠ g) (x : Ent) : RBox (set5 w g 0 x) rb s a := by
  unfold RBox at h ⊢
  unfold set5
  rw [Below.heap_setCell _ _ _ rb (by exact hne), Below.heap_setCell _ _ _ rb (by exact hne), Below.heap_setCell _ _ _ rb (by exact hne), Below.heap_setCell _ _ _ rb (by exact hne), Below.heap_setCell _ _ _ rb (by exact hne)]
  exact h
theorem only_set5 {w w' : World} {rb : Nat} (h : Only rb w w') (x : Ent) : Only rb w (set5 w' w.heap.size 0 x) :=
  ((((h.new (p := ⟨w.heap.size, 0, Option.none⟩) (Nat.le_refl _) _).new (p := ⟨w.heap.size, 0 + 1, Option.none⟩) (Nat.le_refl _) _).new (p := ⟨w.heap.size, 0 + 2, Option.none⟩) (Nat.le_refl _) _).new (p := ⟨w.heap.size, 0 + 3, Option.none⟩) (Nat.le_refl _) _).new (p := ⟨w.heap.size, 0 + 4, Option.none⟩) (Nat.le_refl _) _

set_option maxHeartbeats 1600000 in
set_option maxRecDepth 100000 in
theorem item_any (rb : Nat) (s : ByteArray) (a : Int) (hs : s.size ≤ 4611686018427387904) (w : World) (hb : RBox w rb s a) :
    Calls Tryz.prog 52 #[.pointer (some ⟨rb, 0, none⟩)] w (GotI w rb s (itemS s a)) := by
  obtain ⟨r, hr⟩ : ∃ r, r = itemS s a := ⟨_, rfl⟩
  rw [← hr]
  unfold itemS at hr
  obtain ⟨t, ht⟩ : ∃ t, t = getT s a := ⟨_, rfl⟩
  rw [← ht] at hr
  obtain ⟨c, hc⟩ : ∃ c, c = cntS s t.next := ⟨_, rfl⟩
  rw [← hc] at hr
  obtain ⟨v, hv⟩ : ∃ v, v = getT s c.next := ⟨_, rfl⟩
  rw [← hv] at hr
  have HR := Lib.hid hr
  have HB := Lib.hid hb
  have hrb := lt_of_block hb
  have hob : Only rb w (w.alloc (.cells #[.string ⟨#[]⟩, .int .i64 0, .bool false, .string ⟨#[]⟩, .int .i64 0] 45)) := Only.of_below ((Below.refl _ _).alloc (Nat.le_refl _) _)
  have HB0 : Hid (RBox (w.alloc (.cells #[.string ⟨#[]⟩, .int .i64 0, .bool false, .string ⟨#[]⟩, .int .i64 0] 45)) rb s a) := blk_alloc hb
  clear hr hb
  by_cases h1 : t.e = 0
  case neg =>
    obtain rfl : r = ⟨ent0, 0, t.e⟩ := by rw [HR.out, if_pos h1]
    have HT := Lib.hid (text_bad hs ht.symm h1 _ HB0.out)
    clear hc hv ht
    go_enter Tryz.func52, Tryz.ntmps52
    go_wp2_with fail
    refine HT.out.mono ?_
    rintro e w1 ⟨rfl, hx, ho⟩
    have HO := Lib.hid (hob.trans ho)
    have HX := Lib.hid hx
    clear hx ho
    go_wp2_with fail
    exact ⟨rfl, HO.out, .inr ⟨h1, rfl, HX.out⟩⟩
  case pos =>
  have HT := Lib.hid (text_ok hs ht.symm h1 _ HB0.out)
  rw [if_neg (by simp [h1])] at HR
  generalize t.t = key at HR HT
  generalize t.next = tn at HR HT hc
  clear ht h1
  have HER : Hid (EBox (w.alloc (.cells #[.string ⟨#[]⟩, .int .i64 0, .bool false, .string ⟨#[]⟩, .int .i64 0] 45)) w.heap.size 45 ent0) := EBox.new w 45 ent0
  go_enter Tryz.func52, Tryz.ntmps52
  go_wp2_with fail
  refine HT.out.mono ?_
  rintro e w1 ⟨rfl, hx1, ho1⟩
  have HX1 : Hid (RBox (w1.alloc (.cells #[.string key, .int .i64 0, .bool false, .string ⟨#[]⟩, .int .i64 0] 45)) rb s tn) := blk_alloc hx1
  have hlt1 : w.heap.size < w1.heap.size := by have := ho1.size; simp at this; omega
  have HER1 := Lib.hid ((HER.out.only ho1 (by omega)).below ((Below.refl _ _).alloc (Nat.le_refl _) (.cells #[.string key, .int .i64 0, .bool false, .string ⟨#[]⟩, .int .i64 0] 45)))
  have HEE1 := Lib.hid (EBox.new w1 45 ⟨key, 0, false, ByteArray.empty, 0⟩)
  have HO1 := Lib.hid ((hob.trans ho1).trans (Only.of_below (a := w1) ((Below.refl _ _).alloc (Nat.le_refl _) (.cells #[.string key, .int .i64 0, .bool false, .string ⟨#[]⟩, .int .i64 0] 45))))
  clear hx1 ho1 hob
  by_cases h2 : c.e = 0
  case neg =>
    obtain rfl : r = ⟨ent0, 0, c.e⟩ := by rw [HR.out, if_pos h2]
    have HT := Lib.hid (count_bad hs hc.symm h2 _ HX1.out)
    clear hc hv
    go_wp2_with fail
    refine HT.out.mono ?_
    rintro e w2 ⟨rfl, hx, ho⟩
    have HO := Lib.hid (HO1.out.trans ho)
    have HX := Lib.hid hx
    clear hx ho
    go_wp2_with fail
    exact ⟨rfl, HO.out, .inr ⟨h2, rfl, HX.out⟩⟩
  case pos =>
  have HT := Lib.hid (count_ok hs hc.symm h2 _ HX1.out)
  rw [if_neg (by simp [h2])] at HR
  have hmb := cntS_bd (s := s) (a := tn) (by rw [← hc]; exact h2)
  rw [← hc] at hmb
  obtain ⟨hm0, hm9⟩ := hmb
  generalize c.n = m at HR HT hm0 hm9
  generalize c.next = cn at HR HT hv
  clear hc h2
  go_wp2_with fail
  refine HT.out.mono ?_
  rintro e w2 ⟨rfl, hx2, ho2⟩
  have hlt2 : w1.heap.size < w2.heap.size := by have := ho2.size; simp at this; omega
  have HX2 := Lib.hid hx2
  have HER2 := Lib.hid (HER1.out.only ho2 (by omega))
  have HEE2 := Lib.hid (HEE1.out.only ho2 (by omega))
  have HO2 := Lib.hid (HO1.out.trans ho2)
  clear hx2 ho2
  obtain ⟨k0, k1, k2, k3, k4⟩ := HEE2.out.cells
  have f2 := HEE2.out.fz 2
  have f3 := HEE2.out.fz 3
  have f4 := HEE2.out.fz 4
  have HV := Lib.hid hv
  clear hv
  by_cases h3 : m = 0
  case pos =>
    subst h3
    rw [if_pos rfl] at HR
    go_wp2_with fail
    generalize hW : w2.setCell _ _ = W2
    have HX3 : Hid (RBox W2 rb s cn) := by rw [← hW]; exact (Below.heap_setCell w2 _ _ rb (by show rb ≠ w1.heap.size; omega)).trans HX2.out
    have HER3 : Hid (EBox W2 w.heap.size 45 ent0) := by rw [← hW]; exact HER2.out.far (by show w.heap.size ≠ w1.heap.size; omega) _
    have HEE3 : Hid (EBox W2 w1.heap.size 45 ⟨key, 0, true, ByteArray.empty, 0⟩) := by rw [← hW]; exact HEE2.out.set2 true
    have HO3 : Hid (Only rb w W2) := by rw [← hW]; exact HO2.out.new (by show w.heap.size ≤ w1.heap.size; omega) _
    have hlt3 : w1.heap.size < W2.heap.size := by rw [← hW]; simpa [World.setCell] using hlt2
    clear hW k0 k1 k2 k3 k4 f2 f3 f4
    refine (igood_any _ _ _ _ _ _).mono ?_
    rintro e w3 ⟨rfl, hb3⟩
    have HX4 := Lib.hid (HX3.out.below hb3)
    have HER4 := Lib.hid (HER3.out.below hb3)
    have HEE4 := Lib.hid (HEE3.out.below hb3)
    have HO4 := Lib.hid (HO3.out.trans (Only.of_below hb3))
    clear hb3
    unfold itemX at HR
    by_cases h4 : goodI ⟨key, 0, true, ByteArray.empty, 0⟩ = 0
    case neg =>
      rw [if_neg h4] at HR
      obtain rfl := HR.out
      go_wp2_with fail
      refine (must_bad _ _ h4 _).mono ?_
      rintro e w4 ⟨rfl, rfl⟩
      go_wp2_with fail
      exact ⟨rfl, HO4.out, .inr ⟨h4, rfl, _, HX4.out⟩⟩
    case pos =>
      rw [if_pos h4] at HR
      obtain rfl := HR.out
      go_wp2_with fail
      refine (must_ok _ _).mono ?_
      rintro e w4 ⟨rfl, rfl⟩
      obtain ⟨k0, k1, k2, k3, k4⟩ := HEE4.out.cells
      obtain ⟨q0, q1, q2, q3, q4⟩ := HER4.out.cells
      obtain ⟨z0, z1, z2, z3, z4⟩ : w3.frozen? ⟨w.heap.size, 0, none⟩ = false ∧ w3.frozen? ⟨w.heap.size, 1, none⟩ = false ∧ w3.frozen? ⟨w.heap.size, 2, none⟩ = false ∧ w3.frozen? ⟨w.heap.size, 3, none⟩ = false ∧ w3.frozen? ⟨w.heap.size, 4, none⟩ = false := ⟨HER4.out.fz _, HER4.out.fz _, HER4.out.fz _, HER4.out.fz _, HER4.out.fz _⟩
      go_wp2_with fail
      generalize hV : World.setCell _ _ _ = W5
      have hE5 : EBox W5 w.heap.size 45 ⟨key, 0, true, ByteArray.empty, 0⟩ := by rw [← hV]; exact HER4.out.set5 ⟨key, 0, true, ByteArray.empty, 0⟩
      have hX5 : RBox W5 rb s cn := by rw [← hV]; exact ret_far HX4.out (by omega) ⟨key, 0, true, ByteArray.empty, 0⟩
      have hO5 : Only rb w W5 := by rw [← hV]; exact only_set5 HO4.out ⟨key, 0, true, ByteArray.empty, 0⟩
      obtain ⟨c0, c1, c2, c3, c4⟩ := hE5.cells
      clear hV
      refine bodyPost_ret (v := .agg #[.string key, .int .i64 0, .bool true, .string ByteArray.empty, .int .i64 0]) ?_ rfl ?_
      · simp [results, Tryz.results52, go_sem, c0, c1, c2, c3, c4]
      · exact ⟨hO5, .inl ⟨rfl, rfl, hX5⟩⟩
  case neg =>
    have e3 : (m == 0) = false := ef h3
    have hm1 : 1 ≤ m := by omega
    rw [if_neg h3] at HR
    clear h3
    by_cases h5 : v.e = 0
    case neg =>
      obtain rfl : r = ⟨ent0, 0, v.e⟩ := by rw [HR.out, if_pos h5]
      clear f2 f3 k0 k1 k2 k3
      go_wp2_with fail
      generalize hW : w2.setCell _ _ = W2
      have HX3 : RBox W2 rb s cn := by rw [← hW]; exact (Below.heap_setCell w2 _ _ rb (by show rb ≠ w1.heap.size; omega)).trans HX2.out
      have HO3 : Hid (Only rb w W2) := by rw [← hW]; exact HO2.out.new (by show w.heap.size ≤ w1.heap.size; omega) _
      have HT := Lib.hid (text_bad hs HV.out.symm h5 _ HX3)
      clear hW
      refine HT.out.mono ?_
      rintro e w3 ⟨rfl, hx, ho⟩
      have HO := Lib.hid (HO3.out.trans ho)
      have HX := Lib.hid hx
      clear hx ho
      go_wp2_with fail
      exact ⟨rfl, HO.out, .inr ⟨h5, rfl, HX.out⟩⟩
    case pos =>
    rw [if_neg (by simp [h5])] at HR
    have HG := Lib.hid (fun (W : World) (hX : RBox W rb s cn) => text_ok hs HV.out.symm h5 W hX)
    generalize v.t = vt at HR HG
    generalize v.next = vn at HR HG
    clear h5 f2 f3 k0 k1 k2 k3
    go_wp2_with fail
    generalize hW0 : w2.setCell _ _ = W0
    have HX3 : RBox W0 rb s cn := by rw [← hW0]; exact (Below.heap_setCell w2 _ _ rb (by show rb ≠ w1.heap.size; omega)).trans HX2.out
    have HER3 : Hid (EBox W0 w.heap.size 45 ent0) := by rw [← hW0]; exact HER2.out.far (by show w.heap.size ≠ w1.heap.size; omega) _
    have HEE3 : Hid (EBox W0 w1.heap.size 45 ⟨key, 0, false, ByteArray.empty, m - 1⟩) := by rw [← hW0]; exact HEE2.out.set4 (m - 1)
    have HO3 : Hid (Only rb w W0) := by rw [← hW0]; exact HO2.out.new (by show w.heap.size ≤ w1.heap.size; omega) _
    have hlt3 : w1.heap.size < W0.heap.size := by rw [← hW0]; simpa [World.setCell] using hlt2
    have HT := Lib.hid (HG.out _ HX3)
    clear hW0 k4 f4
    refine HT.out.mono ?_
    rintro e w9 ⟨rfl, hx9, ho9⟩
    have HX9 := Lib.hid hx9
    have HER9 := Lib.hid (HER3.out.only ho9 (by omega))
    have HEE9 := Lib.hid (HEE3.out.only ho9 (by omega))
    have HO9 := Lib.hid (HO3.out.trans ho9)
    have hlt9 : w1.heap.size < w9.heap.size := by have := ho9.size; omega
    clear hx9 ho9
    obtain ⟨k0, k1, k2, k3, k4⟩ := HEE9.out.cells
    have f3 := HEE9.out.fz 3
    simp only at k0 k1 k2 k3 k4
    go_wp2_with fail
    generalize hW : w9.setCell _ _ = W2
    have HX3 : Hid (RBox W2 rb s vn) := by rw [← hW]; exact (Below.heap_setCell w9 _ _ rb (by show rb ≠ w1.heap.size; omega)).trans HX9.out
    have HER3 : Hid (EBox W2 w.heap.size 45 ent0) := by rw [← hW]; exact HER9.out.far (by show w.heap.size ≠ w1.heap.size; omega) _
    have HEE3 : Hid (EBox W2 w1.heap.size 45 ⟨key, 0, false, vt, m - 1⟩) := by rw [← hW]; exact HEE9.out.set3 vt
    have HO3 : Hid (Only rb w W2) := by rw [← hW]; exact HO9.out.new (by show w.heap.size ≤ w1.heap.size; omega) _
    have hlt3 : w1.heap.size < W2.heap.size := by rw [← hW]; simpa [World.setCell] using hlt9
    clear hW k0 k1 k2 k3 k4 f3
    refine (igood_any _ _ _ _ _ _).mono ?_
    rintro e w3 ⟨rfl, hb3⟩
    have HX4 := Lib.hid (HX3.out.below hb3)
    have HER4 := Lib.hid (HER3.out.below hb3)
    have HEE4 := Lib.hid (HEE3.out.below hb3)
    have HO4 := Lib.hid (HO3.out.trans (Only.of_below hb3))
    clear hb3
    unfold itemX at HR
    by_cases h4 : goodI ⟨key, 0, false, vt, m - 1⟩ = 0
    case neg =>
      rw [if_neg h4] at HR
      obtain rfl := HR.out
      go_wp2_with fail
      refine (must_bad _ _ h4 _).mono ?_
      rintro e w4 ⟨rfl, rfl⟩
      go_wp2_with fail
      exact ⟨rfl, HO4.out, .inr ⟨h4, rfl, _, HX4.out⟩⟩
    case pos =>
      rw [if_pos h4] at HR
      obtain rfl := HR.out
      go_wp2_with fail
      refine (must_ok _ _).mono ?_
      rintro e w4 ⟨rfl, rfl⟩
      obtain ⟨k0, k1, k2, k3, k4⟩ := HEE4.out.cells
      obtain ⟨q0, q1, q2, q3, q4⟩ := HER4.out.cells
      obtain ⟨z0, z1, z2, z3, z4⟩ : w3.frozen? ⟨w.heap.size, 0, none⟩ = false ∧ w3.frozen? ⟨w.heap.size, 1, none⟩ = false ∧ w3.frozen? ⟨w.heap.size, 2, none⟩ = false ∧ w3.frozen? ⟨w.heap.size, 3, none⟩ = false ∧ w3.frozen? ⟨w.heap.size, 4, none⟩ = false := ⟨HER4.out.fz _, HER4.out.fz _, HER4.out.fz _, HER4.out.fz _, HER4.out.fz _⟩
      go_wp2_with fail
      generalize hV : World.setCell _ _ _ = W5
      have hE5 : EBox W5 w.heap.size 45 ⟨key, 0, false, vt, m - 1⟩ := by rw [← hV]; exact HER4.out.set5 ⟨key, 0, false, vt, m - 1⟩
      have hX5 : RBox W5 rb s vn := by rw [← hV]; exact ret_far HX4.out (by omega) ⟨key, 0, false, vt, m - 1⟩
      have hO5 : Only rb w W5 := by rw [← hV]; exact only_set5 HO4.out ⟨key, 0, false, vt, m - 1⟩
      obtain ⟨c0, c1, c2, c3, c4⟩ := hE5.cells
      clear hV
      refine bodyPost_ret (v := .agg #[.string key, .int .i64 0, .bool false, .string vt, .int .i64 (m - 1)]) ?_ rfl ?_
      · simp [results, Tryz.results52, go_sem, c0, c1, c2, c3, c4]
      · exact ⟨hO5, .inl ⟨rfl, rfl, hX5⟩⟩
end Go.Proofs.YtpihmjdljbienaaGreatDoor.Bw
