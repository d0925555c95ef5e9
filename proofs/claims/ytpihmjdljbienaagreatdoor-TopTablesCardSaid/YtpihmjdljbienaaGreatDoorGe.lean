/- Several texts in one: BlockN, BlockO, BlockB. -/
import Derived.Test.YtpihmjdljbienaaGreatDoorGa
import Derived.Test.YtpihmjdljbienaaGreatDoorCmpW
import Derived.Test.YtpihmjdljbienaaGreatDoorGood
import Derived.Test.YtpihmjdljbienaaGreatDoorVarint
/- The walks of block's next and Ordered, and the reference's. -/
namespace Go.Proofs.YtpihmjdljbienaaGreatDoor.Ew
open Go.RowKit
open En B
set_option linter.unusedVariables false

theorem keep10 {W W' : World} {b1 b2 o1 o2 : Nat} {a0 a1 a2 a3 a4 c0 c1 c2 c3 c4 : Value}
    (h : (W.cell? ⟨b1, o1, none⟩ = some a0 ∧ W.cell? ⟨b1, o1 + 1, none⟩ = some a1 ∧ W.cell? ⟨b1, o1 + 2, none⟩ = some a2 ∧ W.cell? ⟨b1, o1 + 3, none⟩ = some a3 ∧ W.cell? ⟨b1, o1 + 4, none⟩ = some a4) ∧
      (W.cell? ⟨b2, o2, none⟩ = some c0 ∧ W.cell? ⟨b2, o2 + 1, none⟩ = some c1 ∧ W.cell? ⟨b2, o2 + 2, none⟩ = some c2 ∧ W.cell? ⟨b2, o2 + 3, none⟩ = some c3 ∧ W.cell? ⟨b2, o2 + 4, none⟩ = some c4) ∧ b1 < W.heap.size ∧ b2 < W.heap.size)
    (k : Below W.heap.size W W') :
    (W'.cell? ⟨b1, o1, none⟩ = some a0 ∧ W'.cell? ⟨b1, o1 + 1, none⟩ = some a1 ∧ W'.cell? ⟨b1, o1 + 2, none⟩ = some a2 ∧ W'.cell? ⟨b1, o1 + 3, none⟩ = some a3 ∧ W'.cell? ⟨b1, o1 + 4, none⟩ = some a4) ∧
      (W'.cell? ⟨b2, o2, none⟩ = some c0 ∧ W'.cell? ⟨b2, o2 + 1, none⟩ = some c1 ∧ W'.cell? ⟨b2, o2 + 2, none⟩ = some c2 ∧ W'.cell? ⟨b2, o2 + 3, none⟩ = some c3 ∧ W'.cell? ⟨b2, o2 + 4, none⟩ = some c4) ∧ b1 < W'.heap.size ∧ b2 < W'.heap.size := by
  obtain ⟨⟨h0, h1, h2, h3, h4⟩, ⟨g0, g1, g2, g3, g4⟩, l1, l2⟩ := h
  have key : ∀ p : Addr, p.block < W.heap.size → W'.cell? p = W.cell? p := fun p hp => k.cell hp
  exact ⟨⟨(key _ l1).trans h0, (key _ l1).trans h1, (key _ l1).trans h2, (key _ l1).trans h3, (key _ l1).trans h4⟩, ⟨(key _ l2).trans g0, (key _ l2).trans g1, (key _ l2).trans g2, (key _ l2).trans g3, (key _ l2).trans g4⟩, Nat.lt_of_lt_of_le l1 k.size, Nat.lt_of_lt_of_le l2 k.size⟩

set_option maxHeartbeats 1600000 in
set_option maxRecDepth 100000 in
theorem next_any (a : Option Addr) (n cap : Nat) (l : List Ent) (hl : l.length = n) (hn : n ≤ cap) (hm : cap ≤ 9223372036854775807) (k : ByteArray) (q : Int) (g : Bool) (v : ByteArray) (u : Int) (w : World) (hrow : ERow w a n (fun i => l.getD i ent0)) :
    Calls Tryz.prog 119 #[.slice a n cap, .agg #[.string k, .int .i64 q, .bool g, .string v, .int .i64 u]] w fun e w' => e = .returned (.int .i64 (nextE l ⟨k, q, g, v, u⟩)) ∧ Below w.heap.size w w' := by
  obtain ⟨r, hr⟩ : ∃ r, r = nextE l ⟨k, q, g, v, u⟩ := ⟨_, rfl⟩
  rw [← hr]
  unfold nextE at hr
  simp only at hr
  have HG := Lib.hid (fun W : World => good_any k q g v u W)
  generalize goodE ⟨k, q, g, v, u⟩ = b at hr HG
  have HR := Lib.hid hr
  have HROW := Lib.hid hrow
  have HL := Lib.hid hl
  clear hr hrow hl
  have hz0 := below_alloc (Below.refl w.heap.size w) (.cells #[.string k, .int .i64 q, .bool g, .string v, .int .i64 u] 45)
  by_cases c1 : b = 0
  case neg =>
    obtain rfl : r = b := by rw [HR.out, if_pos c1]
    have e1 : (r != 0) = true := nt c1
    clear c1
    go_enter Tryz.func119, Tryz.ntmps119
    go_wp2_with fail
    refine (HG.out _).mono ?_
    rintro e w1 ⟨rfl, hb⟩
    have hz := chain hz0 hb
    go_wp2_with fail
    go_ret
    exact ⟨rfl, hz⟩
  case pos =>
  subst c1
  rw [if_neg (by simp)] at HR
  by_cases c2 : u = 9223372036854775807
  · obtain rfl : r = 2 := by rw [HR.out, if_pos c2]
    subst c2
    go_enter Tryz.func119, Tryz.ntmps119
    go_wp2_with fail
    refine (HG.out _).mono ?_
    rintro e w1 ⟨rfl, hb⟩
    have hz := chain hz0 hb
    have k4 := hb.cell (p := ⟨w.heap.size, 4, none⟩) (by simp)
    rw [World.cell?_alloc_at _ _ _ _ rfl] at k4
    go_wp2_with fail
    go_ret
    exact ⟨rfl, hz⟩
  rw [if_neg c2] at HR
  have e2 : (u == 9223372036854775807) = false := ef c2
  clear c2
  by_cases c3 : 0 < n
  · have hd3 : decide ((0 : Int) < (n : Int)) = true := dt (by omega)
    obtain ⟨ab, off, rfl, hab, hac⟩ := HROW.out.at c3
    obtain ⟨m, hmn⟩ : ∃ m, n = m + 1 := ⟨n - 1, by omega⟩
    have hd := hac m (by omega)
    have hla : l.getD m ent0 = lastE l := by unfold lastE; rw [HL.out, hmn]; rfl
    rw [hla] at hd
    rw [HL.out] at HR
    generalize lastE l = x at hd HR
    obtain ⟨k1, q1, g1, v1, u1⟩ := x
    simp only at hd
    have HLE := Lib.hid (fun W : World => less_any k1 q1 g1 v1 u1 k q g v u W)
    generalize lessE ⟨k1, q1, g1, v1, u1⟩ ⟨k, q, g, v, u⟩ = le at HLE HR
    have HD := Lib.hid hd
    have em : (n : Int) - 1 = (m : Int) := by omega
    have em0 : IntKind.i64.wrap ((n : Int) - 1) = (m : Int) := by rw [IntWalk.i64_in _ (by omega)]; omega
    have i1 : (0 : Int) ≤ (m : Int) := by omega
    have i2 : (m : Int) < (n : Int) := by omega
    have hmn1 : m < n := by omega
    clear hd hac hla hmn
    go_enter Tryz.func119, Tryz.ntmps119
    go_wp2_with fail
    refine (HG.out _).mono ?_
    rintro e w1 ⟨rfl, hb⟩
    have hz := chain hz0 hb
    have hE := (heap_alloc_new w (.cells #[.string k, .int .i64 q, .bool g, .string v, .int .i64 u] 45))
    have hE1 := (hb.block w.heap.size (by simp)).trans hE
    have hcE := cells5 hE1
    have hlA : w.heap.size < w1.heap.size := lt_of_block hE1
    have hD1 := HD.out
    have H0 : Hid ((w1.cell? ⟨ab, off + m * 5, none⟩ = some (.string k1) ∧ w1.cell? ⟨ab, off + m * 5 + 1, none⟩ = some (.int .i64 q1) ∧ w1.cell? ⟨ab, off + m * 5 + 2, none⟩ = some (.bool g1) ∧ w1.cell? ⟨ab, off + m * 5 + 3, none⟩ = some (.string v1) ∧ w1.cell? ⟨ab, off + m * 5 + 4, none⟩ = some (.int .i64 u1)) ∧
        (w1.cell? ⟨w.heap.size, 0, none⟩ = some (.string k) ∧ w1.cell? ⟨w.heap.size, 0 + 1, none⟩ = some (.int .i64 q) ∧ w1.cell? ⟨w.heap.size, 0 + 2, none⟩ = some (.bool g) ∧ w1.cell? ⟨w.heap.size, 0 + 3, none⟩ = some (.string v) ∧ w1.cell? ⟨w.heap.size, 0 + 4, none⟩ = some (.int .i64 u)) ∧ ab < w1.heap.size ∧ w.heap.size < w1.heap.size) := by
      have key : ∀ p : Addr, p.block < w.heap.size → w1.cell? p = w.cell? p := fun p hp => hz.cell hp
      exact ⟨⟨(key _ hab).trans hD1.1, (key _ hab).trans hD1.2.1, (key _ hab).trans hD1.2.2.1, (key _ hab).trans hD1.2.2.2.1, (key _ hab).trans hD1.2.2.2.2⟩, hcE, by omega, hlA⟩
    have k4 := hcE.2.2.2.2
    clear hE hE1 hcE hD1
    go_wp2_with fail
    clear em
    go_region_held3 (fun w' => (w'.cell? ⟨ab, off + m * 5, none⟩ = some (.string k1) ∧ w'.cell? ⟨ab, off + m * 5 + 1, none⟩ = some (.int .i64 q1) ∧ w'.cell? ⟨ab, off + m * 5 + 2, none⟩ = some (.bool g1) ∧ w'.cell? ⟨ab, off + m * 5 + 3, none⟩ = some (.string v1) ∧ w'.cell? ⟨ab, off + m * 5 + 4, none⟩ = some (.int .i64 u1)) ∧
        (w'.cell? ⟨w.heap.size, 0, none⟩ = some (.string k) ∧ w'.cell? ⟨w.heap.size, 0 + 1, none⟩ = some (.int .i64 q) ∧ w'.cell? ⟨w.heap.size, 0 + 2, none⟩ = some (.bool g) ∧ w'.cell? ⟨w.heap.size, 0 + 3, none⟩ = some (.string v) ∧ w'.cell? ⟨w.heap.size, 0 + 4, none⟩ = some (.int .i64 u)) ∧ ab < w'.heap.size ∧ w.heap.size < w'.heap.size)
      (first | exact H0.out | exact keep10 (W := w1.drew) H0.out hb3)
      (first | (go_at_call 84; refine (HLE.out _).mono ?_; rintro e w3 ⟨rfl, hb3⟩))
    all_goals
      have hz3 := chain hz.drew hb3
      cases le with
      | true =>
        obtain rfl : r = 0 := by rw [HR.out, if_neg (by simp)]
        clear hb3
        go_wp2_with fail
        go_ret
        exact ⟨rfl, hz3⟩
      | false =>
        obtain rfl : r = 16 := by rw [HR.out, if_pos ⟨c3, rfl⟩]
        clear hb3
        go_wp2_with fail
        go_ret
        exact ⟨rfl, hz3⟩
  · obtain rfl : n = 0 := by omega
    obtain rfl : r = 0 := by rw [HR.out, if_neg (by rw [HL.out]; omega)]
    go_enter Tryz.func119, Tryz.ntmps119
    go_wp2_with fail
    refine (HG.out _).mono ?_
    rintro e w1 ⟨rfl, hb⟩
    have hz := chain hz0 hb
    have k4 := hb.cell (p := ⟨w.heap.size, 4, none⟩) (by simp)
    rw [World.cell?_alloc_at _ _ _ _ rfl] at k4
    go_wp2_with fail
    go_quiet (fail)
    go_wp2_with fail
    go_ret
    exact ⟨rfl, drewN hz⟩

end Go.Proofs.YtpihmjdljbienaaGreatDoor.Ew

/- The walks of block.Ordered and the reference's. -/
namespace Go.Proofs.YtpihmjdljbienaaGreatDoor.Ew
open Go.RowKit
open En B
set_option linter.unusedVariables false

theorem erow_take {w : World} {a : Option Addr} {n j : Nat} {l : List Ent} (h : ERow w a n (fun i => l.getD i ent0)) (hj : j ≤ n) (hl : l.length = n) : ERow w a j (fun i => (l.take j).getD i ent0) :=
  (h.take hj).congr fun i hi => by simp only [List.getD_eq_getElem?_getD, List.getElem?_take_of_lt hi]
theorem keep5 {W W' : World} {b1 o1 : Nat} {a0 a1 a2 a3 a4 : Value}
    (h : (W.cell? ⟨b1, o1, none⟩ = some a0 ∧ W.cell? ⟨b1, o1 + 1, none⟩ = some a1 ∧ W.cell? ⟨b1, o1 + 2, none⟩ = some a2 ∧ W.cell? ⟨b1, o1 + 3, none⟩ = some a3 ∧ W.cell? ⟨b1, o1 + 4, none⟩ = some a4) ∧ b1 < W.heap.size)
    (k : Below W.heap.size W W') :
    (W'.cell? ⟨b1, o1, none⟩ = some a0 ∧ W'.cell? ⟨b1, o1 + 1, none⟩ = some a1 ∧ W'.cell? ⟨b1, o1 + 2, none⟩ = some a2 ∧ W'.cell? ⟨b1, o1 + 3, none⟩ = some a3 ∧ W'.cell? ⟨b1, o1 + 4, none⟩ = some a4) ∧ b1 < W'.heap.size := by
  obtain ⟨⟨h0, h1, h2, h3, h4⟩, l1⟩ := h
  have key : ∀ p : Addr, p.block < W.heap.size → W'.cell? p = W.cell? p := fun p hp => k.cell hp
  exact ⟨⟨(key _ l1).trans h0, (key _ l1).trans h1, (key _ l1).trans h2, (key _ l1).trans h3, (key _ l1).trans h4⟩, Nat.lt_of_lt_of_le l1 k.size⟩

set_option maxHeartbeats 1600000 in
set_option maxRecDepth 100000 in
theorem ordered_any (a : Option Addr) (n cap : Nat) (l : List Ent) (hl : l.length = n) (hn : n ≤ cap) (hm : cap ≤ 9223372036854775807) (w : World) (hrow : ERow w a n (fun i => l.getD i ent0)) :
    Calls Tryz.prog 61 #[.slice a n cap] w fun e w' => e = .returned (.tuple #[.int .i64 ((orderedE l).1 : Nat), .int .i64 (orderedE l).2]) ∧ Below w.heap.size w w' := by
  obtain ⟨R, hR⟩ : ∃ R, R = orderedE l := ⟨_, rfl⟩
  rw [← hR]
  unfold orderedE at hR
  rw [hl] at hR
  have HR := Lib.hid hR
  have HL := Lib.hid hl
  have HROW := Lib.hid hrow
  clear hR hl hrow
  have i3 : (n : Int) ≤ (cap : Int) := by omega
  go_enter Tryz.func61, Tryz.ntmps61
  go_wp2_with fail
  go_loopw [9] (fun i wr => ∃ j : Nat, i = .int .i64 j ∧ j ≤ n ∧ Hid (ordE l 0 n = ordE l j (n - j)) ∧ Below w.heap.size w wr) (fun i _ => n - (intOf i).toNat)
  case atStart => exact ⟨0, rfl, by omega, rfl, Below.refl _ _⟩
  case round =>
    obtain ⟨j, rfl, hj, hord, hbel⟩ := hrel
    by_cases hlt : j < n
    · obtain ⟨k, hk⟩ : ∃ k, n - j = k + 1 := ⟨n - j - 1, by omega⟩
      have hst := hord.out
      rw [hk] at hst
      simp only [ordE] at hst
      have hrw := HROW.out.below hbel
      have hrt := erow_take hrw hj HL.out
      obtain ⟨ab, off, rfl, hab, hac⟩ := hrw.at (by omega)
      have hd := hac j hlt
      have hlt2 : (l.take j).length = j := by rw [List.length_take, HL.out]; omega
      generalize l.getD j ent0 = x at hd hst
      generalize l.take j = tj at hst hrt hlt2
      obtain ⟨ky, q, g, v, u⟩ := x
      simp only at hd
      obtain ⟨p0, p1, p2, p3, p4⟩ := hd
      have HN := Lib.hid (fun (W : World) hr => next_any (some ⟨ab, off, none⟩) j cap tj hlt2 (by omega) hm ky q g v u W hr)
      generalize nextE tj ⟨ky, q, g, v, u⟩ = r at HN hst
      have HST := Lib.hid hst
      have HRT := Lib.hid hrt
      have HK := Lib.hid hk
      have i1 : (0 : Int) ≤ (j : Int) := by omega
      have i2 : (j : Int) < (n : Int) := by omega
      have i4 : (j : Int) ≤ (cap : Int) := by omega
      have hbA := hbel.alloc hbel.size (.cells #[.string ky, .int .i64 q, .bool g, .string v, .int .i64 u] 45)
      clear hac hst hrw hrt hlt2 hk hord
      go_wp2_with fail
      generalize hW : World.alloc _ _ = W0
      have hE : W0.heap[wr.heap.size]? = some (.cells #[.string ky, .int .i64 q, .bool g, .string v, .int .i64 u] 45 (0, 0)) := by rw [← hW]; exact heap_alloc_new _ _
      have hZ : Below w.heap.size w W0 := by rw [← hW]; exact hbA
      have HRT2 : Hid (ERow W0 (some ⟨ab, off, none⟩) j (fun i => tj.getD i ent0)) := by rw [← hW]; exact HRT.out.below ((Below.refl _ _).alloc (Nat.le_refl _) _)
      have H0 : Hid ((W0.cell? ⟨wr.heap.size, 0, none⟩ = some (.string ky) ∧ W0.cell? ⟨wr.heap.size, 0 + 1, none⟩ = some (.int .i64 q) ∧ W0.cell? ⟨wr.heap.size, 0 + 2, none⟩ = some (.bool g) ∧ W0.cell? ⟨wr.heap.size, 0 + 3, none⟩ = some (.string v) ∧ W0.cell? ⟨wr.heap.size, 0 + 4, none⟩ = some (.int .i64 u)) ∧ wr.heap.size < W0.heap.size) := ⟨cells5 hE, lt_of_block hE⟩
      clear hW hE hbA p0 p1 p2 p3 p4
      go_region_held3 (fun w' => (w'.cell? ⟨wr.heap.size, 0, none⟩ = some (.string ky) ∧ w'.cell? ⟨wr.heap.size, 0 + 1, none⟩ = some (.int .i64 q) ∧ w'.cell? ⟨wr.heap.size, 0 + 2, none⟩ = some (.bool g) ∧ w'.cell? ⟨wr.heap.size, 0 + 3, none⟩ = some (.string v) ∧ w'.cell? ⟨wr.heap.size, 0 + 4, none⟩ = some (.int .i64 u)) ∧ wr.heap.size < w'.heap.size)
        (first | exact H0.out | exact keep5 (W := W0.drew) H0.out hb3)
        (first | (go_at_call 119; refine (HN.out W0.drew HRT2.out).mono ?_; rintro e w3 ⟨rfl, hb3⟩))
      all_goals
        have hz3 := chain hZ.drew hb3
        by_cases hr0 : r = 0
        · have e1 : (r != 0) = false := nf hr0
          have h9 : ordE l 0 n = ordE l (j + 1) (n - (j + 1)) := by
            rw [HST.out, if_neg (by simp [hr0]), show n - (j + 1) = k from by have := HK.out; omega]
          have H9 := Lib.hid h9
          clear hr0 h9 hb3
          go_wp2_with fail
          go_roundw
          case rel => exact ⟨j + 1, by go_num, by omega, H9.out, hz3⟩
          case measure => simp [intOf]; omega
        · have e1 : (r != 0) = true := nt hr0
          have h9 : R = (j, r) := by rw [HR.out, HST.out, if_pos hr0]
          have H9 := Lib.hid h9
          clear hr0 h9 hb3
          go_wp2_with fail
          go_ret2
          exact ⟨by rw [H9.out]; rfl, hz3⟩
    · obtain rfl : j = n := by omega
      have h9 : R = (0, 0) := by rw [HR.out, hord.out, Nat.sub_self]; rfl
      have H9 := Lib.hid h9
      clear h9 hord
      go_wp2_with fail
      go_ret2
      exact ⟨by rw [H9.out]; rfl, hbel⟩

end Go.Proofs.YtpihmjdljbienaaGreatDoor.Ew

/- The walks of block's shared and Build. -/
namespace Go.Proofs.YtpihmjdljbienaaGreatDoor.Ew
open Go.RowKit
open En B Vp Vw Bd
set_option linter.unusedVariables false

theorem getD_bn (s : ByteArray) (k : Nat) : (s.data.toList.getD k 0).toNat = bn s k := rfl
theorem u8_eq (x y : UInt8) : x = y ↔ x.toNat = y.toNat := ⟨fun h => by rw [h], UInt8.toNat_inj.1⟩

set_option maxHeartbeats 800000 in
set_option maxRecDepth 100000 in
theorem shared_any (a b : ByteArray) (ha : a.size ≤ 4611686018427387904) (hb : b.size ≤ 4611686018427387904) (w : World) :
    Calls Tryz.prog 121 #[.string a, .string b] w fun e w' => e = .returned (.int .i64 (pref a.data.toList b.data.toList : Nat)) ∧ ∃ q, w' = w.drewN q := by
  obtain ⟨r, hr⟩ : ∃ r, r = pref a.data.toList b.data.toList := ⟨_, rfl⟩
  rw [← hr]
  have HR := Lib.hid hr
  have HGA := Lib.hid (get_bn a)
  have HGB := Lib.hid (get_bn b)
  have la : a.data.toList.length = a.size := by simp
  have lb : b.data.toList.length = b.size := by simp
  have HLA := Lib.hid la
  have HLB := Lib.hid lb
  clear hr la lb
  go_enter Tryz.func121, Tryz.ntmps121
  go_wp2_with fail
  go_loopw [5] (fun i wr => ∃ j mq : Nat, i = .int .i64 j ∧ j ≤ a.size ∧ j ≤ b.size ∧ wr = w.drewN mq ∧ Hid (r = j + pref (a.data.toList.drop j) (b.data.toList.drop j))) (fun i _ => a.size - (intOf i).toNat)
  case atStart => exact ⟨0, 0, rfl, by omega, by omega, rfl, by show r = 0 + _; rw [HR.out, Nat.zero_add]; rfl⟩
  case round =>
    obtain ⟨j, mq, rfl, hja, hjb, rfl, hp⟩ := hrel
    have i0 : (0 : Int) ≤ (j : Int) := by omega
    by_cases h1 : j < a.size
    case neg =>
      have e1 : decide (j < a.size) = false := df h1
      have hre : r = j := by rw [hp.out, pref_end _ _ _ (.inl (by rw [HLA.out]; omega))]; rfl
      have HRE := Lib.hid hre
      clear hre hp
      go_wp2_with fail
      go_quiet (fail)
      go_wp2_with fail
      go_ret
      exact ⟨by rw [HRE.out]; rfl, _, (World.drewN_drewN ..)⟩
    case pos =>
    have e1 : decide (j < a.size) = true := dt h1
    by_cases h2 : j < b.size
    case neg =>
      have e2 : decide (j < b.size) = false := df h2
      have hre : r = j := by rw [hp.out, pref_end _ _ _ (.inr (by rw [HLB.out]; omega))]; rfl
      have HRE := Lib.hid hre
      clear hre hp
      go_wp2_with fail
      go_quiet (fail)
      go_wp2_with fail
      go_ret
      exact ⟨by rw [HRE.out]; rfl, _, (World.drewN_drewN ..)⟩
    case pos =>
    have e2 : decide (j < b.size) = true := dt h2
    have hps := pref_step a.data.toList b.data.toList j (by rw [HLA.out]; exact h1) (by rw [HLB.out]; exact h2)
    have g1 := HGA.out j h1
    have g2 := HGB.out j h2
    have hbe : a.data.toList.getD j 0 = b.data.toList.getD j 0 ↔ bn a j = bn b j := by rw [u8_eq, getD_bn, getD_bn]
    have l1 := bn_lt a j
    have l2 := bn_lt b j
    generalize bn a j = x at g1 hbe l1
    generalize bn b j = y at g2 hbe l2
    by_cases h3 : x = y
    · have e3 : ((x : Int) == (y : Int)) = true := et (by omega)
      have hre : r = (j + 1) + pref (a.data.toList.drop (j + 1)) (b.data.toList.drop (j + 1)) := by rw [hp.out, hps, if_pos (hbe.2 h3)]; omega
      have HRE := Lib.hid hre
      have H3 := Lib.hid h3
      clear hre hp hps hbe h3
      go_wp2_with fail
      go_quiet (fail)
      go_wp2_with fail
      go_roundw
      case rel => exact ⟨j + 1, mq + _, by go_num, by omega, by omega, rfl, HRE.out⟩
      case measure => simp [intOf]; omega
    · have e3 : ((x : Int) == (y : Int)) = false := ef (by omega)
      have hre : r = j := by rw [hp.out, hps, if_neg (fun hh => h3 (hbe.1 hh))]; rfl
      have HRE := Lib.hid hre
      clear hre hp hps hbe h3
      go_wp2_with fail
      go_quiet (fail)
      go_wp2_with fail
      go_ret
      exact ⟨by rw [HRE.out]; rfl, _, (World.drewN_drewN ..)⟩
end Go.Proofs.YtpihmjdljbienaaGreatDoor.Ew
