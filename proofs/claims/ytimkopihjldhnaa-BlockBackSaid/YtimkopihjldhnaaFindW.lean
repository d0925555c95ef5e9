/- The walks of Find's closure and of the search. -/
import Derived.Test.YtimkopihjldhnaaFindP
import Derived.Test.YtimkopihjldhnaaBlockN
import Derived.Test.YtimkopihjldhnaaSetE
namespace Go.Proofs.Ytimkopihjldhnaa.Ew
open Go.RowKit
open En B
set_option linter.unusedVariables false

/-- the order as a number -/
def ordF (x y : Ent) : Int := if lessE x y = true then -1 else if lessE y x = true then 1 else 0

set_option maxHeartbeats 400000 in
set_option maxRecDepth 100000 in
theorem ordF_any (k : ByteArray) (q : Int) (g : Bool) (v : ByteArray) (u : Int) (k' : ByteArray) (q' : Int) (g' : Bool) (v' : ByteArray) (u' : Int) (w : World) :
    Calls Try.prog 36 #[.agg #[.string k, .int .i64 q, .bool g, .string v, .int .i64 u], .agg #[.string k', .int .i64 q', .bool g', .string v', .int .i64 u']] w fun e w' => e = .returned (.int .i64 (ordF ⟨k, q, g, v, u⟩ ⟨k', q', g', v', u'⟩)) ∧ Below w.heap.size w w' := by
  obtain ⟨r, hr⟩ : ∃ r, r = ordF ⟨k, q, g, v, u⟩ ⟨k', q', g', v', u'⟩ := ⟨_, rfl⟩
  rw [← hr]
  unfold ordF at hr
  have HA := Lib.hid (fun W => less_any k q g v u k' q' g' v' u' W)
  have HB := Lib.hid (fun W => less_any k' q' g' v' u' k q g v u W)
  generalize lessE ⟨k, q, g, v, u⟩ ⟨k', q', g', v', u'⟩ = b1 at HA hr
  generalize lessE ⟨k', q', g', v', u'⟩ ⟨k, q, g, v, u⟩ = b2 at HB hr
  have HR := Lib.hid hr
  clear hr
  have hz0 := below_alloc (below_alloc (Below.refl w.heap.size w) (.cells #[.string k, .int .i64 q, .bool g, .string v, .int .i64 u] 45)) (.cells #[.string k', .int .i64 q', .bool g', .string v', .int .i64 u'] 45)
  have hE1 : EBox ((w.alloc (.cells #[.string k, .int .i64 q, .bool g, .string v, .int .i64 u] 45)).alloc (.cells #[.string k', .int .i64 q', .bool g', .string v', .int .i64 u'] 45)) w.heap.size 45 ⟨k, q, g, v, u⟩ := blk_alloc (heap_alloc_new _ _)
  have hE2 : EBox ((w.alloc (.cells #[.string k, .int .i64 q, .bool g, .string v, .int .i64 u] 45)).alloc (.cells #[.string k', .int .i64 q', .bool g', .string v', .int .i64 u'] 45)) (w.heap.size + 1) 45 ⟨k', q', g', v', u'⟩ := blk_new (by simp)
  go_enter Try.func36, Try.ntmps36
  go_wp2_with fail
  generalize hW : World.alloc _ _ = W0
  rw [hW] at hz0 hE1 hE2
  clear hW
  refine (HA.out _).mono ?_
  rintro e w1 ⟨rfl, hb1⟩
  have hz1 := chain hz0 hb1
  obtain ⟨p0, p1, p2, p3, p4⟩ := (hE1.below hb1).cells
  obtain ⟨q0, q1, q2, q3, q4⟩ := (hE2.below hb1).cells
  simp only at p0 p1 p2 p3 p4 q0 q1 q2 q3 q4
  clear hE1 hE2 hb1 hz0
  cases b1 with
  | true =>
    obtain rfl : r = -1 := by rw [HR.out, if_pos rfl]
    go_wp2_with fail
    go_ret
    exact ⟨rfl, hz1⟩
  | false =>
    go_wp2_with fail
    refine (HB.out _).mono ?_
    rintro e w2 ⟨rfl, hb2⟩
    have hz2 := chain hz1 hb2
    clear hz1 hb2 p0 p1 p2 p3 p4 q0 q1 q2 q3 q4
    cases b2 with
    | true =>
      obtain rfl : r = 1 := by rw [HR.out, if_neg (by decide), if_pos rfl]
      go_wp2_with fail
      go_ret
      exact ⟨rfl, hz2⟩
    | false =>
      obtain rfl : r = 0 := by rw [HR.out, if_neg (by decide), if_neg (by decide)]
      go_wp2_with fail
      go_ret
      exact ⟨rfl, hz2⟩

theorem less_upto {l : List Ent} (hs : Sorted l) {x t : Ent} {h m : Nat} (hx : x = l.getD h ent0) (hl : lessE x t = true) (hh : h < l.length) (hm : m ≤ h) : lessE (l.getD m ent0) t = true := by
  subst hx
  by_cases h1 : m = h
  · subst h1; exact hl
  · exact lessE_trans (hs m h (by omega) hh) hl
theorem less_from {l : List Ent} (hs : Sorted l) {x t : Ent} {h m : Nat} (hx : x = l.getD h ent0) (hl : lessE x t = false) (hh : m < l.length) (hm : h ≤ m) : lessE (l.getD m ent0) t = false := by
  subst hx
  by_cases h1 : m = h
  · subst h1; exact hl
  · exact not_less (hs h m (by omega) hh) hl

set_option maxHeartbeats 1600000 in
set_option maxRecDepth 100000 in
theorem bs_any (a : Option Addr) (n cap : Nat) (l : List Ent) (hl : l.length = n) (hn : n ≤ 4096) (k : ByteArray) (q : Int) (g : Bool) (v : ByteArray) (u : Int) (hs : Sorted l) (w : World) (hrow : ERow w a n (fun i => l.getD i ent0)) :
    Calls Try.prog 35 #[.slice a n cap, .agg #[.string k, .int .i64 q, .bool g, .string v, .int .i64 u], .func (.func 36) #[] #[]] w fun e w' => ∃ (p : Nat) (b : Bool),
      e = .returned (.tuple #[.int .i64 p, .bool b]) ∧ p ≤ n ∧ (∀ i, i < p → lessE (l.getD i ent0) ⟨k, q, g, v, u⟩ = true) ∧ (∀ i, p ≤ i → i < n → lessE (l.getD i ent0) ⟨k, q, g, v, u⟩ = false) ∧ Below w.heap.size w w' := by
  have HS := Lib.hid hs
  have HL := Lib.hid hl
  have HROW := Lib.hid hrow
  have hE0 : EBox (w.alloc (.cells #[.string k, .int .i64 q, .bool g, .string v, .int .i64 u] 45)) w.heap.size 45 ⟨k, q, g, v, u⟩ := heap_alloc_new _ _
  have hB0 : Below w.heap.size w (w.alloc (.cells #[.string k, .int .i64 q, .bool g, .string v, .int .i64 u] 45)) := below_alloc (Below.refl _ _) _
  have HE0 := Lib.hid hE0
  clear hs hl hrow hE0
  go_enter Try.func35, Try.ntmps35
  go_wp2_with fail
  go_loopw [9, 10] (fun si sj wr => ∃ (i j : Nat), si = .int .i64 i ∧ sj = .int .i64 j ∧ i ≤ j ∧ j ≤ n ∧ Hid (∀ m, m < i → lessE (l.getD m ent0) ⟨k, q, g, v, u⟩ = true) ∧ Hid (∀ m, j ≤ m → m < n → lessE (l.getD m ent0) ⟨k, q, g, v, u⟩ = false) ∧
    Hid (EBox wr w.heap.size 45 ⟨k, q, g, v, u⟩) ∧ Below w.heap.size w wr) (fun si sj _ => (intOf sj).toNat - (intOf si).toNat)
  case atStart => exact ⟨0, n, rfl, rfl, by omega, by omega, fun m hm => by omega, fun m h1 h2 => by omega, HE0.out, hB0⟩
  case round =>
    obtain ⟨i, j, rfl, rfl, hij, hjn, hlo, hhi, hE, hbel⟩ := hrel
    by_cases hlt : i < j
    · obtain ⟨ab, off, rfl, hab, hac⟩ := HROW.out.at (by omega)
      obtain ⟨h, hh⟩ : ∃ h : Nat, ((i : Int) + (j : Int)) / 2 = (h : Int) := ⟨(i + j) / 2, by omega⟩
      have hd := hac h (by omega)
      have hx0 : Hid (l.getD h ent0 = l.getD h ent0) := rfl
      obtain ⟨x, hx⟩ : ∃ x, x = l.getD h ent0 := ⟨_, rfl⟩
      rw [← hx] at hd
      obtain ⟨k1, q1, g1, v1, u1⟩ := x
      simp only at hd
      have HLE := Lib.hid (fun W : World => ordF_any k1 q1 g1 v1 u1 k q g v u W)
      have HX := Lib.hid hx
      have HH := Lib.hid hh
      have hi1 : i ≤ h := by omega
      have hi2 : h < j := by omega
      have i1 : (0 : Int) ≤ (h : Int) := by omega
      have i2 : (h : Int) < (n : Int) := by omega
      have H0 : Hid ((wr.cell? ⟨ab, off + h * 5, none⟩ = some (.string k1) ∧ wr.cell? ⟨ab, off + h * 5 + 1, none⟩ = some (.int .i64 q1) ∧ wr.cell? ⟨ab, off + h * 5 + 2, none⟩ = some (.bool g1) ∧ wr.cell? ⟨ab, off + h * 5 + 3, none⟩ = some (.string v1) ∧ wr.cell? ⟨ab, off + h * 5 + 4, none⟩ = some (.int .i64 u1)) ∧
        (wr.cell? ⟨w.heap.size, 0, none⟩ = some (.string k) ∧ wr.cell? ⟨w.heap.size, 0 + 1, none⟩ = some (.int .i64 q) ∧ wr.cell? ⟨w.heap.size, 0 + 2, none⟩ = some (.bool g) ∧ wr.cell? ⟨w.heap.size, 0 + 3, none⟩ = some (.string v) ∧ wr.cell? ⟨w.heap.size, 0 + 4, none⟩ = some (.int .i64 u)) ∧ ab < wr.heap.size ∧ w.heap.size < wr.heap.size) := by
        have key : ∀ p : Addr, p.block < w.heap.size → wr.cell? p = w.cell? p := fun p hp => hbel.cell hp
        exact ⟨⟨(key _ hab).trans hd.1, (key _ hab).trans hd.2.1, (key _ hab).trans hd.2.2.1, (key _ hab).trans hd.2.2.2.1, (key _ hab).trans hd.2.2.2.2⟩, hE.out.cells, by have := hbel.size; omega, lt_of_block hE.out⟩
      clear hd hac hx
      cases hle : lessE ⟨k1, q1, g1, v1, u1⟩ ⟨k, q, g, v, u⟩ with
      | true =>
        have ho : ordF ⟨k1, q1, g1, v1, u1⟩ ⟨k, q, g, v, u⟩ = -1 := by unfold ordF; rw [if_pos hle]
        rw [ho] at HLE
        have HLO := Lib.hid hle
        clear hle ho
        go_wp2_with fail
        clear hh
        go_region_held3 (fun w' => (w'.cell? ⟨ab, off + h * 5, none⟩ = some (.string k1) ∧ w'.cell? ⟨ab, off + h * 5 + 1, none⟩ = some (.int .i64 q1) ∧ w'.cell? ⟨ab, off + h * 5 + 2, none⟩ = some (.bool g1) ∧ w'.cell? ⟨ab, off + h * 5 + 3, none⟩ = some (.string v1) ∧ w'.cell? ⟨ab, off + h * 5 + 4, none⟩ = some (.int .i64 u1)) ∧
        (w'.cell? ⟨w.heap.size, 0, none⟩ = some (.string k) ∧ w'.cell? ⟨w.heap.size, 0 + 1, none⟩ = some (.int .i64 q) ∧ w'.cell? ⟨w.heap.size, 0 + 2, none⟩ = some (.bool g) ∧ w'.cell? ⟨w.heap.size, 0 + 3, none⟩ = some (.string v) ∧ w'.cell? ⟨w.heap.size, 0 + 4, none⟩ = some (.int .i64 u)) ∧ ab < w'.heap.size ∧ w.heap.size < w'.heap.size)
        (first | exact H0.out | exact keep10 (W := wr.drew) H0.out hb3)
        (first | (go_at_call 36; refine (HLE.out _).mono ?_; rintro e w3 ⟨rfl, hb3⟩))
        all_goals
          have hz3 := Below.trans hbel.drew (hb3.mono hbel.size)
          have HE3 := Lib.hid (EBox.below (w := wr.drew) hE.out hb3)
          clear hb3
          go_wp2_with fail
          go_roundw
          case rel => exact ⟨h + 1, j, by go_num, rfl, by omega, by omega, fun m hm => less_upto HS.out HX.out HLO.out (by rw [HL.out]; omega) (by omega), hhi.out, HE3.out, hz3⟩
          case measure => simp [intOf]; omega
      | false =>
        have ho : decide (ordF ⟨k1, q1, g1, v1, u1⟩ ⟨k, q, g, v, u⟩ < 0) = false := by unfold ordF; rw [if_neg (by rw [hle]; decide)]; split <;> decide
        generalize ordF ⟨k1, q1, g1, v1, u1⟩ ⟨k, q, g, v, u⟩ = c at ho HLE
        have HLO := Lib.hid hle
        clear hle
        go_wp2_with fail
        clear hh
        go_region_held3 (fun w' => (w'.cell? ⟨ab, off + h * 5, none⟩ = some (.string k1) ∧ w'.cell? ⟨ab, off + h * 5 + 1, none⟩ = some (.int .i64 q1) ∧ w'.cell? ⟨ab, off + h * 5 + 2, none⟩ = some (.bool g1) ∧ w'.cell? ⟨ab, off + h * 5 + 3, none⟩ = some (.string v1) ∧ w'.cell? ⟨ab, off + h * 5 + 4, none⟩ = some (.int .i64 u1)) ∧
        (w'.cell? ⟨w.heap.size, 0, none⟩ = some (.string k) ∧ w'.cell? ⟨w.heap.size, 0 + 1, none⟩ = some (.int .i64 q) ∧ w'.cell? ⟨w.heap.size, 0 + 2, none⟩ = some (.bool g) ∧ w'.cell? ⟨w.heap.size, 0 + 3, none⟩ = some (.string v) ∧ w'.cell? ⟨w.heap.size, 0 + 4, none⟩ = some (.int .i64 u)) ∧ ab < w'.heap.size ∧ w.heap.size < w'.heap.size)
        (first | exact H0.out | exact keep10 (W := wr.drew) H0.out hb3)
        (first | (go_at_call 36; refine (HLE.out _).mono ?_; rintro e w3 ⟨rfl, hb3⟩))
        all_goals
          have hz3 := Below.trans hbel.drew (hb3.mono hbel.size)
          have HE3 := Lib.hid (EBox.below (w := wr.drew) hE.out hb3)
          clear hb3
          go_wp2_with fail
          go_roundw
          case rel => exact ⟨i, h, rfl, rfl, by omega, by omega, hlo.out, fun m h1 h2 => less_from HS.out HX.out HLO.out (by rw [HL.out]; omega) h1, HE3.out, hz3⟩
          case measure => simp [intOf]; omega
    · obtain rfl : i = j := by omega
      by_cases hin : i < n
      · obtain ⟨ab, off, rfl, hab, hac⟩ := HROW.out.at (by omega)
        obtain ⟨h, rfl⟩ : ∃ h : Nat, i = h := ⟨i, rfl⟩
        have hd := hac i (by omega)
        generalize l.getD i ent0 = x at hd
        obtain ⟨k1, q1, g1, v1, u1⟩ := x
        simp only at hd
        have HLE := Lib.hid (fun W : World => ordF_any k1 q1 g1 v1 u1 k q g v u W)
        generalize ordF ⟨k1, q1, g1, v1, u1⟩ ⟨k, q, g, v, u⟩ = c at HLE
        have i1 : (0 : Int) ≤ (i : Int) := by omega
        have i2 : (i : Int) < (n : Int) := by omega
        have H0 : Hid ((wr.cell? ⟨ab, off + i * 5, none⟩ = some (.string k1) ∧ wr.cell? ⟨ab, off + i * 5 + 1, none⟩ = some (.int .i64 q1) ∧ wr.cell? ⟨ab, off + i * 5 + 2, none⟩ = some (.bool g1) ∧ wr.cell? ⟨ab, off + i * 5 + 3, none⟩ = some (.string v1) ∧ wr.cell? ⟨ab, off + i * 5 + 4, none⟩ = some (.int .i64 u1)) ∧
          (wr.cell? ⟨w.heap.size, 0, none⟩ = some (.string k) ∧ wr.cell? ⟨w.heap.size, 0 + 1, none⟩ = some (.int .i64 q) ∧ wr.cell? ⟨w.heap.size, 0 + 2, none⟩ = some (.bool g) ∧ wr.cell? ⟨w.heap.size, 0 + 3, none⟩ = some (.string v) ∧ wr.cell? ⟨w.heap.size, 0 + 4, none⟩ = some (.int .i64 u)) ∧ ab < wr.heap.size ∧ w.heap.size < wr.heap.size) := by
          have key : ∀ p : Addr, p.block < w.heap.size → wr.cell? p = w.cell? p := fun p hp => hbel.cell hp
          exact ⟨⟨(key _ hab).trans hd.1, (key _ hab).trans hd.2.1, (key _ hab).trans hd.2.2.1, (key _ hab).trans hd.2.2.2.1, (key _ hab).trans hd.2.2.2.2⟩, hE.out.cells, by have := hbel.size; omega, lt_of_block hE.out⟩
        clear hd hac
        go_wp2_with fail
        go_region_held3 (fun w' => (w'.cell? ⟨ab, off + i * 5, none⟩ = some (.string k1) ∧ w'.cell? ⟨ab, off + i * 5 + 1, none⟩ = some (.int .i64 q1) ∧ w'.cell? ⟨ab, off + i * 5 + 2, none⟩ = some (.bool g1) ∧ w'.cell? ⟨ab, off + i * 5 + 3, none⟩ = some (.string v1) ∧ w'.cell? ⟨ab, off + i * 5 + 4, none⟩ = some (.int .i64 u1)) ∧
        (w'.cell? ⟨w.heap.size, 0, none⟩ = some (.string k) ∧ w'.cell? ⟨w.heap.size, 0 + 1, none⟩ = some (.int .i64 q) ∧ w'.cell? ⟨w.heap.size, 0 + 2, none⟩ = some (.bool g) ∧ w'.cell? ⟨w.heap.size, 0 + 3, none⟩ = some (.string v) ∧ w'.cell? ⟨w.heap.size, 0 + 4, none⟩ = some (.int .i64 u)) ∧ ab < w'.heap.size ∧ w.heap.size < w'.heap.size)
        (first | exact H0.out | exact keep10 (W := wr.drew) H0.out hb3)
        (first | (go_at_call 36; refine (HLE.out _).mono ?_; rintro e w3 ⟨rfl, hb3⟩))
        all_goals
          have hz3 := Below.trans hbel.drew (hb3.mono hbel.size)
          clear hb3
          go_wp2_with fail
          go_ret2
          exact ⟨i, _, rfl, by omega, hlo.out, hhi.out, hz3⟩
      · obtain rfl : i = n := by omega
        go_wp2_with fail
        go_quiet (fail)
        go_wp2_with fail
        go_ret2
        exact ⟨i, _, rfl, by omega, hlo.out, hhi.out, drewN hbel⟩
end Go.Proofs.Ytimkopihjldhnaa.Ew
