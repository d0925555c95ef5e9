/- The walks of block's next and Ordered, and the reference's. -/
import Derived.Test.YtajfalffpcamhaaGa
import Derived.Test.YtajfalffpcamhaaCmpW
import Derived.Test.YtajfalffpcamhaaGood
namespace Go.Proofs.Ytajfalffpcamhaa.Ew
open Go.RowKit
open En B
set_option linter.unusedVariables false

theorem keep10 {W W' : World} {b1 b2 o1 o2 : Nat} {a0 a1 a2 a3 a4 c0 c1 c2 c3 c4 : Value}
    (h : (W.cell? ⟨b1, o1, none⟩ = some a0 ∧ W.cell? ⟨b1, o1 + 1, none⟩ = some a1 ∧ W.cell? ⟨b1, o1 + 2, none⟩ = some a2 ∧ W.cell? ⟨b1, o1 + 3, none⟩ = some a3 ∧ W.cell? ⟨b1, o1 + 4, none⟩ = some a4) ∧
      (W.cell? ⟨b2, o2, none⟩ = some c0 ∧ W.cell? ⟨b2, o2 + 1, none⟩ = some c1 ∧ W.cell? ⟨b2, o2 + 2, none⟩ = some c2 ∧ W.cell? ⟨b2, o2 + 3, none⟩ = some c3 ∧ W.cell? ⟨b2, o2 + 4, none⟩ = some c4) ∧ b1 < W.heap.size ∧ b2 < W.heap.size)
    (k : Below W.heap.size W W') :
    (W'.cell? ⟨b1, o1, none⟩ = some a0 ∧ W'.cell? ⟨b1, o1 + 1, none⟩ = some a1 ∧ W'.cell? ⟨b1, o1 + 2, none⟩ = some a2 ∧ W'.cell? ⟨b1, o1 + 3, none⟩ = some a3 ∧ W'.cell? ⟨b1, o1 + 4, none⟩ = some a4) ∧
      (W'.cell? ⟨b2, o2, none⟩ = some c0 ∧ W'.cell? ⟨b2, o2 + 1, none⟩ = some c1 ∧ W'.cell? ⟨b2, o2 + 2, none⟩ = some c2 ∧ W'.cell? ⟨b2, o2 + 3, none⟩ = some c3 ∧ W'.cell? ⟨b2, o2 + 4, none⟩ = some c4) ∧ b1 < W'.heap.size ∧ b2 < W'.heap.size := by
  obtain ⟨⟨h0, h1, h2, h3, h4⟩, ⟨g0, g1, g2, g3, g4⟩, l1, l2⟩ := h
  have key : ∀ p : Addr, p.block < W.heap.size → W'.cell? p = W.cell? p := fun p hp => k.cell hp
  exact ⟨⟨(key _ l1).trans h0, (key _ l1).trans h1, (key _ l1).trans h2, (key _ l1).trans h3, (key _ l1).trans h4⟩, ⟨(key _ l2).trans g0, (key _ l2).trans g1, (key _ l2).trans g2, (key _ l2).trans g3, (key _ l2).trans g4⟩, Nat.lt_of_lt_of_le l1 k.size, Nat.lt_of_lt_of_le l2 k.size⟩

set_option maxHeartbeats 1600000 in
set_option maxRecDepth 100000 in
theorem next_any (a : Option Addr) (n cap : Nat) (l : List Ent) (hl : l.length = n) (hn : n ≤ cap) (hm : cap ≤ 9223372036854775807) (k : ByteArray) (q : Int) (g : Bool) (v : ByteArray) (u : Int) (w : World) (hrow : ERow w a n (fun i => l.getD i ent0)) :
    Calls Try.prog 62 #[.slice a n cap, .agg #[.string k, .int .i64 q, .bool g, .string v, .int .i64 u]] w fun e w' => e = .returned (.int .i64 (nextE l ⟨k, q, g, v, u⟩)) ∧ Below w.heap.size w w' := by
  obtain ⟨r, hr⟩ : ∃ r, r = nextE l ⟨k, q, g, v, u⟩ := ⟨_, rfl⟩
  rw [← hr]
  unfold nextE at hr
  simp only at hr
  have HG := Lib.hid (fun W : World => good_any k q g v u W)
  generalize goodE ⟨k, q, g, v, u⟩ = b at hr HG
  have HR := Lib.hid hr
  have HROW := Lib.hid hrow
  have HL := Lib.hid hl
  clear hr hrow hl
  have hz0 := below_alloc (Below.refl w.heap.size w) (.cells #[.string k, .int .i64 q, .bool g, .string v, .int .i64 u] 57)
  by_cases c1 : b = 0
  case neg =>
    obtain rfl : r = b := by rw [HR.out, if_pos c1]
    have e1 : (r != 0) = true := nt c1
    clear c1
    go_enter Try.func62, Try.ntmps62
    go_wp2_with fail
    refine (HG.out _).mono ?_
    rintro e w1 ⟨rfl, hb⟩
    have hz := chain hz0 hb
    go_wp2_with fail
    go_ret
    exact ⟨rfl, hz⟩
  case pos =>
  subst c1
  rw [if_neg (by simp)] at HR
  by_cases c2 : u = 9223372036854775807
  · obtain rfl : r = 2 := by rw [HR.out, if_pos c2]
    subst c2
    go_enter Try.func62, Try.ntmps62
    go_wp2_with fail
    refine (HG.out _).mono ?_
    rintro e w1 ⟨rfl, hb⟩
    have hz := chain hz0 hb
    have k4 := hb.cell (p := ⟨w.heap.size, 4, none⟩) (by simp)
    rw [World.cell?_alloc_at _ _ _ _ rfl] at k4
    go_wp2_with fail
    go_ret
    exact ⟨rfl, hz⟩
  rw [if_neg c2] at HR
  have e2 : (u == 9223372036854775807) = false := ef c2
  clear c2
  by_cases c3 : 0 < n
  · have hd3 : decide ((0 : Int) < (n : Int)) = true := dt (by omega)
    obtain ⟨ab, off, rfl, hab, hac⟩ := HROW.out.at c3
    obtain ⟨m, hmn⟩ : ∃ m, n = m + 1 := ⟨n - 1, by omega⟩
    have hd := hac m (by omega)
    have hla : l.getD m ent0 = lastE l := by unfold lastE; rw [HL.out, hmn]; rfl
    rw [hla] at hd
    rw [HL.out] at HR
    generalize lastE l = x at hd HR
    obtain ⟨k1, q1, g1, v1, u1⟩ := x
    simp only at hd
    have HLE := Lib.hid (fun W : World => less_any k1 q1 g1 v1 u1 k q g v u W)
    generalize lessE ⟨k1, q1, g1, v1, u1⟩ ⟨k, q, g, v, u⟩ = le at HLE HR
    have HD := Lib.hid hd
    have em : (n : Int) - 1 = (m : Int) := by omega
    have em0 : IntKind.i64.wrap ((n : Int) - 1) = (m : Int) := by rw [IntWalk.i64_in _ (by omega)]; omega
    have i1 : (0 : Int) ≤ (m : Int) := by omega
    have i2 : (m : Int) < (n : Int) := by omega
    have hmn1 : m < n := by omega
    clear hd hac hla hmn
    go_enter Try.func62, Try.ntmps62
    go_wp2_with fail
    refine (HG.out _).mono ?_
    rintro e w1 ⟨rfl, hb⟩
    have hz := chain hz0 hb
    have hE := (heap_alloc_new w (.cells #[.string k, .int .i64 q, .bool g, .string v, .int .i64 u] 57))
    have hE1 := (hb.block w.heap.size (by simp)).trans hE
    have hcE := cells5 hE1
    have hlA : w.heap.size < w1.heap.size := lt_of_block hE1
    have hD1 := HD.out
    have H0 : Hid ((w1.cell? ⟨ab, off + m * 5, none⟩ = some (.string k1) ∧ w1.cell? ⟨ab, off + m * 5 + 1, none⟩ = some (.int .i64 q1) ∧ w1.cell? ⟨ab, off + m * 5 + 2, none⟩ = some (.bool g1) ∧ w1.cell? ⟨ab, off + m * 5 + 3, none⟩ = some (.string v1) ∧ w1.cell? ⟨ab, off + m * 5 + 4, none⟩ = some (.int .i64 u1)) ∧
        (w1.cell? ⟨w.heap.size, 0, none⟩ = some (.string k) ∧ w1.cell? ⟨w.heap.size, 0 + 1, none⟩ = some (.int .i64 q) ∧ w1.cell? ⟨w.heap.size, 0 + 2, none⟩ = some (.bool g) ∧ w1.cell? ⟨w.heap.size, 0 + 3, none⟩ = some (.string v) ∧ w1.cell? ⟨w.heap.size, 0 + 4, none⟩ = some (.int .i64 u)) ∧ ab < w1.heap.size ∧ w.heap.size < w1.heap.size) := by
      have key : ∀ p : Addr, p.block < w.heap.size → w1.cell? p = w.cell? p := fun p hp => hz.cell hp
      exact ⟨⟨(key _ hab).trans hD1.1, (key _ hab).trans hD1.2.1, (key _ hab).trans hD1.2.2.1, (key _ hab).trans hD1.2.2.2.1, (key _ hab).trans hD1.2.2.2.2⟩, hcE, by omega, hlA⟩
    have k4 := hcE.2.2.2.2
    clear hE hE1 hcE hD1
    go_wp2_with fail
    clear em
    go_region_held3 (fun w' => (w'.cell? ⟨ab, off + m * 5, none⟩ = some (.string k1) ∧ w'.cell? ⟨ab, off + m * 5 + 1, none⟩ = some (.int .i64 q1) ∧ w'.cell? ⟨ab, off + m * 5 + 2, none⟩ = some (.bool g1) ∧ w'.cell? ⟨ab, off + m * 5 + 3, none⟩ = some (.string v1) ∧ w'.cell? ⟨ab, off + m * 5 + 4, none⟩ = some (.int .i64 u1)) ∧
        (w'.cell? ⟨w.heap.size, 0, none⟩ = some (.string k) ∧ w'.cell? ⟨w.heap.size, 0 + 1, none⟩ = some (.int .i64 q) ∧ w'.cell? ⟨w.heap.size, 0 + 2, none⟩ = some (.bool g) ∧ w'.cell? ⟨w.heap.size, 0 + 3, none⟩ = some (.string v) ∧ w'.cell? ⟨w.heap.size, 0 + 4, none⟩ = some (.int .i64 u)) ∧ ab < w'.heap.size ∧ w.heap.size < w'.heap.size)
      (first | exact H0.out | exact keep10 (W := w1.drew) H0.out hb3)
      (first | (go_at_call 56; refine (HLE.out _).mono ?_; rintro e w3 ⟨rfl, hb3⟩))
    all_goals
      have hz3 := chain hz.drew hb3
      cases le with
      | true =>
        obtain rfl : r = 0 := by rw [HR.out, if_neg (by simp)]
        clear hb3
        go_wp2_with fail
        go_ret
        exact ⟨rfl, hz3⟩
      | false =>
        obtain rfl : r = 16 := by rw [HR.out, if_pos ⟨c3, rfl⟩]
        clear hb3
        go_wp2_with fail
        go_ret
        exact ⟨rfl, hz3⟩
  · obtain rfl : n = 0 := by omega
    obtain rfl : r = 0 := by rw [HR.out, if_neg (by rw [HL.out]; omega)]
    go_enter Try.func62, Try.ntmps62
    go_wp2_with fail
    refine (HG.out _).mono ?_
    rintro e w1 ⟨rfl, hb⟩
    have hz := chain hz0 hb
    have k4 := hb.cell (p := ⟨w.heap.size, 4, none⟩) (by simp)
    rw [World.cell?_alloc_at _ _ _ _ rfl] at k4
    go_wp2_with fail
    go_quiet (fail)
    go_wp2_with fail
    go_ret
    exact ⟨rfl, drewN hz⟩

set_option maxHeartbeats 1600000 in
set_option maxRecDepth 100000 in
theorem rnext_any (a : Option Addr) (n cap : Nat) (l : List Ent) (hl : l.length = n) (hn : n ≤ cap) (hm : cap ≤ 9223372036854775807) (k : ByteArray) (q : Int) (g : Bool) (v : ByteArray) (u : Int) (w : World) (hrow : ERow w a n (fun i => l.getD i ent0)) :
    Calls Try.prog 68 #[.slice a n cap, .agg #[.string k, .int .i64 q, .bool g, .string v, .int .i64 u]] w fun e w' => e = .returned (.int .i64 (nextE l ⟨k, q, g, v, u⟩)) ∧ Below w.heap.size w w' := by
  obtain ⟨r, hr⟩ : ∃ r, r = nextE l ⟨k, q, g, v, u⟩ := ⟨_, rfl⟩
  rw [← hr]
  unfold nextE at hr
  simp only at hr
  have HG := Lib.hid (fun W : World => rgood_any k q g v u W)
  generalize goodE ⟨k, q, g, v, u⟩ = b at hr HG
  have HR := Lib.hid hr
  have HROW := Lib.hid hrow
  have HL := Lib.hid hl
  clear hr hrow hl
  have hz0 := below_alloc (Below.refl w.heap.size w) (.cells #[.string k, .int .i64 q, .bool g, .string v, .int .i64 u] 56)
  by_cases c1 : b = 0
  case neg =>
    obtain rfl : r = b := by rw [HR.out, if_pos c1]
    have e1 : (r != 0) = true := nt c1
    clear c1
    go_enter Try.func68, Try.ntmps68
    go_wp2_with fail
    refine (HG.out _).mono ?_
    rintro e w1 ⟨rfl, hb⟩
    have hz := chain hz0 hb
    go_wp2_with fail
    go_ret
    exact ⟨rfl, hz⟩
  case pos =>
  subst c1
  rw [if_neg (by simp)] at HR
  by_cases c2 : u = 9223372036854775807
  · obtain rfl : r = 2 := by rw [HR.out, if_pos c2]
    subst c2
    go_enter Try.func68, Try.ntmps68
    go_wp2_with fail
    refine (HG.out _).mono ?_
    rintro e w1 ⟨rfl, hb⟩
    have hz := chain hz0 hb
    have k4 := hb.cell (p := ⟨w.heap.size, 4, none⟩) (by simp)
    rw [World.cell?_alloc_at _ _ _ _ rfl] at k4
    go_wp2_with fail
    go_ret
    exact ⟨rfl, hz⟩
  rw [if_neg c2] at HR
  have e2 : (u == 9223372036854775807) = false := ef c2
  clear c2
  by_cases c3 : 0 < n
  · have hd3 : decide ((0 : Int) < (n : Int)) = true := dt (by omega)
    obtain ⟨ab, off, rfl, hab, hac⟩ := HROW.out.at c3
    obtain ⟨m, hmn⟩ : ∃ m, n = m + 1 := ⟨n - 1, by omega⟩
    have hd := hac m (by omega)
    have hla : l.getD m ent0 = lastE l := by unfold lastE; rw [HL.out, hmn]; rfl
    rw [hla] at hd
    rw [HL.out] at HR
    generalize lastE l = x at hd HR
    obtain ⟨k1, q1, g1, v1, u1⟩ := x
    simp only at hd
    have HLE := Lib.hid (fun W : World => rless_any k1 q1 g1 v1 u1 k q g v u W)
    generalize lessE ⟨k1, q1, g1, v1, u1⟩ ⟨k, q, g, v, u⟩ = le at HLE HR
    have HD := Lib.hid hd
    have em : (n : Int) - 1 = (m : Int) := by omega
    have em0 : IntKind.i64.wrap ((n : Int) - 1) = (m : Int) := by rw [IntWalk.i64_in _ (by omega)]; omega
    have i1 : (0 : Int) ≤ (m : Int) := by omega
    have i2 : (m : Int) < (n : Int) := by omega
    have hmn1 : m < n := by omega
    clear hd hac hla hmn
    go_enter Try.func68, Try.ntmps68
    go_wp2_with fail
    refine (HG.out _).mono ?_
    rintro e w1 ⟨rfl, hb⟩
    have hz := chain hz0 hb
    have hE := (heap_alloc_new w (.cells #[.string k, .int .i64 q, .bool g, .string v, .int .i64 u] 56))
    have hE1 := (hb.block w.heap.size (by simp)).trans hE
    have hcE := cells5 hE1
    have hlA : w.heap.size < w1.heap.size := lt_of_block hE1
    have hD1 := HD.out
    have H0 : Hid ((w1.cell? ⟨ab, off + m * 5, none⟩ = some (.string k1) ∧ w1.cell? ⟨ab, off + m * 5 + 1, none⟩ = some (.int .i64 q1) ∧ w1.cell? ⟨ab, off + m * 5 + 2, none⟩ = some (.bool g1) ∧ w1.cell? ⟨ab, off + m * 5 + 3, none⟩ = some (.string v1) ∧ w1.cell? ⟨ab, off + m * 5 + 4, none⟩ = some (.int .i64 u1)) ∧
        (w1.cell? ⟨w.heap.size, 0, none⟩ = some (.string k) ∧ w1.cell? ⟨w.heap.size, 0 + 1, none⟩ = some (.int .i64 q) ∧ w1.cell? ⟨w.heap.size, 0 + 2, none⟩ = some (.bool g) ∧ w1.cell? ⟨w.heap.size, 0 + 3, none⟩ = some (.string v) ∧ w1.cell? ⟨w.heap.size, 0 + 4, none⟩ = some (.int .i64 u)) ∧ ab < w1.heap.size ∧ w.heap.size < w1.heap.size) := by
      have key : ∀ p : Addr, p.block < w.heap.size → w1.cell? p = w.cell? p := fun p hp => hz.cell hp
      exact ⟨⟨(key _ hab).trans hD1.1, (key _ hab).trans hD1.2.1, (key _ hab).trans hD1.2.2.1, (key _ hab).trans hD1.2.2.2.1, (key _ hab).trans hD1.2.2.2.2⟩, hcE, by omega, hlA⟩
    have k4 := hcE.2.2.2.2
    clear hE hE1 hcE hD1
    go_wp2_with fail
    clear em
    go_region_held3 (fun w' => (w'.cell? ⟨ab, off + m * 5, none⟩ = some (.string k1) ∧ w'.cell? ⟨ab, off + m * 5 + 1, none⟩ = some (.int .i64 q1) ∧ w'.cell? ⟨ab, off + m * 5 + 2, none⟩ = some (.bool g1) ∧ w'.cell? ⟨ab, off + m * 5 + 3, none⟩ = some (.string v1) ∧ w'.cell? ⟨ab, off + m * 5 + 4, none⟩ = some (.int .i64 u1)) ∧
        (w'.cell? ⟨w.heap.size, 0, none⟩ = some (.string k) ∧ w'.cell? ⟨w.heap.size, 0 + 1, none⟩ = some (.int .i64 q) ∧ w'.cell? ⟨w.heap.size, 0 + 2, none⟩ = some (.bool g) ∧ w'.cell? ⟨w.heap.size, 0 + 3, none⟩ = some (.string v) ∧ w'.cell? ⟨w.heap.size, 0 + 4, none⟩ = some (.int .i64 u)) ∧ ab < w'.heap.size ∧ w.heap.size < w'.heap.size)
      (first | exact H0.out | exact keep10 (W := w1.drew) H0.out hb3)
      (first | (go_at_call 58; refine (HLE.out _).mono ?_; rintro e w3 ⟨rfl, hb3⟩))
    all_goals
      have hz3 := chain hz.drew hb3
      cases le with
      | true =>
        obtain rfl : r = 0 := by rw [HR.out, if_neg (by simp)]
        clear hb3
        go_wp2_with fail
        go_ret
        exact ⟨rfl, hz3⟩
      | false =>
        obtain rfl : r = 16 := by rw [HR.out, if_pos ⟨c3, rfl⟩]
        clear hb3
        go_wp2_with fail
        go_ret
        exact ⟨rfl, hz3⟩
  · obtain rfl : n = 0 := by omega
    obtain rfl : r = 0 := by rw [HR.out, if_neg (by rw [HL.out]; omega)]
    go_enter Try.func68, Try.ntmps68
    go_wp2_with fail
    refine (HG.out _).mono ?_
    rintro e w1 ⟨rfl, hb⟩
    have hz := chain hz0 hb
    have k4 := hb.cell (p := ⟨w.heap.size, 4, none⟩) (by simp)
    rw [World.cell?_alloc_at _ _ _ _ rfl] at k4
    go_wp2_with fail
    go_ret
    exact ⟨rfl, hz⟩
end Go.Proofs.Ytajfalffpcamhaa.Ew
