/- The walks of block.Ordered and the reference's. -/
import Derived.Test.YtajfalffpcamhaaBlockN
namespace Go.Proofs.Ytajfalffpcamhaa.Ew
open Go.RowKit
open En B
set_option linter.unusedVariables false

theorem erow_take {w : World} {a : Option Addr} {n j : Nat} {l : List Ent} (h : ERow w a n (fun i => l.getD i ent0)) (hj : j ≤ n) (hl : l.length = n) : ERow w a j (fun i => (l.take j).getD i ent0) :=
  (h.take hj).congr fun i hi => by simp only [List.getD_eq_getElem?_getD, List.getElem?_take_of_lt hi]
theorem keep5 {W W' : World} {b1 o1 : Nat} {a0 a1 a2 a3 a4 : Value}
    (h : (W.cell? ⟨b1, o1, none⟩ = some a0 ∧ W.cell? ⟨b1, o1 + 1, none⟩ = some a1 ∧ W.cell? ⟨b1, o1 + 2, none⟩ = some a2 ∧ W.cell? ⟨b1, o1 + 3, none⟩ = some a3 ∧ W.cell? ⟨b1, o1 + 4, none⟩ = some a4) ∧ b1 < W.heap.size)
    (k : Below W.heap.size W W') :
    (W'.cell? ⟨b1, o1, none⟩ = some a0 ∧ W'.cell? ⟨b1, o1 + 1, none⟩ = some a1 ∧ W'.cell? ⟨b1, o1 + 2, none⟩ = some a2 ∧ W'.cell? ⟨b1, o1 + 3, none⟩ = some a3 ∧ W'.cell? ⟨b1, o1 + 4, none⟩ = some a4) ∧ b1 < W'.heap.size := by
  obtain ⟨⟨h0, h1, h2, h3, h4⟩, l1⟩ := h
  have key : ∀ p : Addr, p.block < W.heap.size → W'.cell? p = W.cell? p := fun p hp => k.cell hp
  exact ⟨⟨(key _ l1).trans h0, (key _ l1).trans h1, (key _ l1).trans h2, (key _ l1).trans h3, (key _ l1).trans h4⟩, Nat.lt_of_lt_of_le l1 k.size⟩

set_option maxHeartbeats 1600000 in
set_option maxRecDepth 100000 in
theorem ordered_any (a : Option Addr) (n cap : Nat) (l : List Ent) (hl : l.length = n) (hn : n ≤ cap) (hm : cap ≤ 9223372036854775807) (w : World) (hrow : ERow w a n (fun i => l.getD i ent0)) :
    Calls Try.prog 25 #[.slice a n cap] w fun e w' => e = .returned (.tuple #[.int .i64 ((orderedE l).1 : Nat), .int .i64 (orderedE l).2]) ∧ Below w.heap.size w w' := by
  obtain ⟨R, hR⟩ : ∃ R, R = orderedE l := ⟨_, rfl⟩
  rw [← hR]
  unfold orderedE at hR
  rw [hl] at hR
  have HR := Lib.hid hR
  have HL := Lib.hid hl
  have HROW := Lib.hid hrow
  clear hR hl hrow
  have i3 : (n : Int) ≤ (cap : Int) := by omega
  go_enter Try.func25, Try.ntmps25
  go_wp2_with fail
  go_loopw [9] (fun i wr => ∃ j : Nat, i = .int .i64 j ∧ j ≤ n ∧ Hid (ordE l 0 n = ordE l j (n - j)) ∧ Below w.heap.size w wr) (fun i _ => n - (intOf i).toNat)
  case atStart => exact ⟨0, rfl, by omega, rfl, Below.refl _ _⟩
  case round =>
    obtain ⟨j, rfl, hj, hord, hbel⟩ := hrel
    by_cases hlt : j < n
    · obtain ⟨k, hk⟩ : ∃ k, n - j = k + 1 := ⟨n - j - 1, by omega⟩
      have hst := hord.out
      rw [hk] at hst
      simp only [ordE] at hst
      have hrw := HROW.out.below hbel
      have hrt := erow_take hrw hj HL.out
      obtain ⟨ab, off, rfl, hab, hac⟩ := hrw.at (by omega)
      have hd := hac j hlt
      have hlt2 : (l.take j).length = j := by rw [List.length_take, HL.out]; omega
      generalize l.getD j ent0 = x at hd hst
      generalize l.take j = tj at hst hrt hlt2
      obtain ⟨ky, q, g, v, u⟩ := x
      simp only at hd
      obtain ⟨p0, p1, p2, p3, p4⟩ := hd
      have HN := Lib.hid (fun (W : World) hr => next_any (some ⟨ab, off, none⟩) j cap tj hlt2 (by omega) hm ky q g v u W hr)
      generalize nextE tj ⟨ky, q, g, v, u⟩ = r at HN hst
      have HST := Lib.hid hst
      have HRT := Lib.hid hrt
      have HK := Lib.hid hk
      have i1 : (0 : Int) ≤ (j : Int) := by omega
      have i2 : (j : Int) < (n : Int) := by omega
      have i4 : (j : Int) ≤ (cap : Int) := by omega
      have hbA := hbel.alloc hbel.size (.cells #[.string ky, .int .i64 q, .bool g, .string v, .int .i64 u] 57)
      clear hac hst hrw hrt hlt2 hk hord
      go_wp2_with fail
      generalize hW : World.alloc _ _ = W0
      have hE : W0.heap[wr.heap.size]? = some (.cells #[.string ky, .int .i64 q, .bool g, .string v, .int .i64 u] 57 (0, 0)) := by rw [← hW]; exact heap_alloc_new _ _
      have hZ : Below w.heap.size w W0 := by rw [← hW]; exact hbA
      have HRT2 : Hid (ERow W0 (some ⟨ab, off, none⟩) j (fun i => tj.getD i ent0)) := by rw [← hW]; exact HRT.out.below ((Below.refl _ _).alloc (Nat.le_refl _) _)
      have H0 : Hid ((W0.cell? ⟨wr.heap.size, 0, none⟩ = some (.string ky) ∧ W0.cell? ⟨wr.heap.size, 0 + 1, none⟩ = some (.int .i64 q) ∧ W0.cell? ⟨wr.heap.size, 0 + 2, none⟩ = some (.bool g) ∧ W0.cell? ⟨wr.heap.size, 0 + 3, none⟩ = some (.string v) ∧ W0.cell? ⟨wr.heap.size, 0 + 4, none⟩ = some (.int .i64 u)) ∧ wr.heap.size < W0.heap.size) := ⟨cells5 hE, lt_of_block hE⟩
      clear hW hE hbA p0 p1 p2 p3 p4
      go_region_held3 (fun w' => (w'.cell? ⟨wr.heap.size, 0, none⟩ = some (.string ky) ∧ w'.cell? ⟨wr.heap.size, 0 + 1, none⟩ = some (.int .i64 q) ∧ w'.cell? ⟨wr.heap.size, 0 + 2, none⟩ = some (.bool g) ∧ w'.cell? ⟨wr.heap.size, 0 + 3, none⟩ = some (.string v) ∧ w'.cell? ⟨wr.heap.size, 0 + 4, none⟩ = some (.int .i64 u)) ∧ wr.heap.size < w'.heap.size)
        (first | exact H0.out | exact keep5 (W := W0.drew) H0.out hb3)
        (first | (go_at_call 62; refine (HN.out W0.drew HRT2.out).mono ?_; rintro e w3 ⟨rfl, hb3⟩))
      all_goals
        have hz3 := chain hZ.drew hb3
        by_cases hr0 : r = 0
        · have e1 : (r != 0) = false := nf hr0
          have h9 : ordE l 0 n = ordE l (j + 1) (n - (j + 1)) := by
            rw [HST.out, if_neg (by simp [hr0]), show n - (j + 1) = k from by have := HK.out; omega]
          have H9 := Lib.hid h9
          clear hr0 h9 hb3
          go_wp2_with fail
          go_roundw
          case rel => exact ⟨j + 1, by go_num, by omega, H9.out, hz3⟩
          case measure => simp [intOf]; omega
        · have e1 : (r != 0) = true := nt hr0
          have h9 : R = (j, r) := by rw [HR.out, HST.out, if_pos hr0]
          have H9 := Lib.hid h9
          clear hr0 h9 hb3
          go_wp2_with fail
          go_ret2
          exact ⟨by rw [H9.out]; rfl, hz3⟩
    · obtain rfl : j = n := by omega
      have h9 : R = (0, 0) := by rw [HR.out, hord.out, Nat.sub_self]; rfl
      have H9 := Lib.hid h9
      clear h9 hord
      go_wp2_with fail
      go_ret2
      exact ⟨by rw [H9.out]; rfl, hbel⟩

set_option maxHeartbeats 1600000 in
set_option maxRecDepth 100000 in
theorem rordered_any (a : Option Addr) (n cap : Nat) (l : List Ent) (hl : l.length = n) (hn : n ≤ cap) (hm : cap ≤ 9223372036854775807) (w : World) (hrow : ERow w a n (fun i => l.getD i ent0)) :
    Calls Try.prog 36 #[.slice a n cap] w fun e w' => e = .returned (.tuple #[.int .i64 ((orderedE l).1 : Nat), .int .i64 (orderedE l).2]) ∧ Below w.heap.size w w' := by
  obtain ⟨R, hR⟩ : ∃ R, R = orderedE l := ⟨_, rfl⟩
  rw [← hR]
  unfold orderedE at hR
  rw [hl] at hR
  have HR := Lib.hid hR
  have HL := Lib.hid hl
  have HROW := Lib.hid hrow
  clear hR hl hrow
  have i3 : (n : Int) ≤ (cap : Int) := by omega
  go_enter Try.func36, Try.ntmps36
  go_wp2_with fail
  go_loopw [4] (fun i wr => ∃ j : Nat, i = .int .i64 j ∧ j ≤ n ∧ Hid (ordE l 0 n = ordE l j (n - j)) ∧ Below w.heap.size w wr) (fun i _ => n - (intOf i).toNat)
  case atStart => exact ⟨0, rfl, by omega, rfl, Below.refl _ _⟩
  case round =>
    obtain ⟨j, rfl, hj, hord, hbel⟩ := hrel
    by_cases hlt : j < n
    · obtain ⟨k, hk⟩ : ∃ k, n - j = k + 1 := ⟨n - j - 1, by omega⟩
      have hst := hord.out
      rw [hk] at hst
      simp only [ordE] at hst
      have hrw := HROW.out.below hbel
      have hrt := erow_take hrw hj HL.out
      obtain ⟨ab, off, rfl, hab, hac⟩ := hrw.at (by omega)
      have hd := hac j hlt
      have hlt2 : (l.take j).length = j := by rw [List.length_take, HL.out]; omega
      generalize l.getD j ent0 = x at hd hst
      generalize l.take j = tj at hst hrt hlt2
      obtain ⟨ky, q, g, v, u⟩ := x
      simp only at hd
      obtain ⟨p0, p1, p2, p3, p4⟩ := hd
      have HN := Lib.hid (fun (W : World) hr => rnext_any (some ⟨ab, off, none⟩) j cap tj hlt2 (by omega) hm ky q g v u W hr)
      generalize nextE tj ⟨ky, q, g, v, u⟩ = r at HN hst
      have HST := Lib.hid hst
      have HRT := Lib.hid hrt
      have HK := Lib.hid hk
      have i1 : (0 : Int) ≤ (j : Int) := by omega
      have i2 : (j : Int) < (n : Int) := by omega
      have i4 : (j : Int) ≤ (cap : Int) := by omega
      have hD := (⟨⟨p0, p1, p2, p3, p4⟩, hab⟩ : (wr.cell? ⟨ab, off + j * 5, none⟩ = some (.string ky) ∧ wr.cell? ⟨ab, off + j * 5 + 1, none⟩ = some (.int .i64 q) ∧ wr.cell? ⟨ab, off + j * 5 + 2, none⟩ = some (.bool g) ∧ wr.cell? ⟨ab, off + j * 5 + 3, none⟩ = some (.string v) ∧ wr.cell? ⟨ab, off + j * 5 + 4, none⟩ = some (.int .i64 u)) ∧ ab < wr.heap.size)
      have H0 := Lib.hid hD
      clear hac hst hrw hrt hlt2 hk hord hD p0 p1 p2 p3 p4
      go_wp2_with fail
      go_region_held3 (fun w' => (w'.cell? ⟨ab, off + j * 5, none⟩ = some (.string ky) ∧ w'.cell? ⟨ab, off + j * 5 + 1, none⟩ = some (.int .i64 q) ∧ w'.cell? ⟨ab, off + j * 5 + 2, none⟩ = some (.bool g) ∧ w'.cell? ⟨ab, off + j * 5 + 3, none⟩ = some (.string v) ∧ w'.cell? ⟨ab, off + j * 5 + 4, none⟩ = some (.int .i64 u)) ∧ ab < w'.heap.size)
        (first | exact H0.out | exact keep5 (W := wr.drew) H0.out hb3)
        (first | (go_at_call 68; refine (HN.out wr.drew HRT.out).mono ?_; rintro e w3 ⟨rfl, hb3⟩))
      all_goals
        have hz3 := chain hbel.drew hb3
        by_cases hr0 : r = 0
        · have e1 : (r != 0) = false := nf hr0
          have h9 : ordE l 0 n = ordE l (j + 1) (n - (j + 1)) := by
            rw [HST.out, if_neg (by simp [hr0]), show n - (j + 1) = k from by have := HK.out; omega]
          have H9 := Lib.hid h9
          clear hr0 h9 hb3
          go_wp2_with fail
          go_roundw
          case rel => exact ⟨j + 1, by go_num, by omega, H9.out, hz3⟩
          case measure => simp [intOf]; omega
        · have e1 : (r != 0) = true := nt hr0
          have h9 : R = (j, r) := by rw [HR.out, HST.out, if_pos hr0]
          have H9 := Lib.hid h9
          clear hr0 h9 hb3
          go_wp2_with fail
          go_ret2
          exact ⟨by rw [H9.out]; rfl, hz3⟩
    · obtain rfl : j = n := by omega
      have h9 : R = (0, 0) := by rw [HR.out, hord.out, Nat.sub_self]; rfl
      have H9 := Lib.hid h9
      clear h9 hord
      go_wp2_with fail
      go_ret2
      exact ⟨by rw [H9.out]; rfl, hbel⟩
end Go.Proofs.Ytajfalffpcamhaa.Ew
