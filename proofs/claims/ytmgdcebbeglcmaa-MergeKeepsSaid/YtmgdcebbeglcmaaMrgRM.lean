/- The walk of the reference's Merge. -/
import Derived.Test.YtmgdcebbeglcmaaMrgRC
import Derived.Deep.RegionHeld3
namespace Go.Proofs.Ytmgdcebbeglcmaa.Ew
open Go.RowKit
open En B
set_option linter.unusedVariables false

/-- a slice of slices of entries (or of boxes of one such), wherever they lie -/
def LsRow (w : World) (la : Option Addr) (ln : Nat) (sl : Nat → Option Addr × Nat × Nat) (ls : List (List Ent)) : Prop :=
  ls.length = ln ∧ Row w la ln (fun i => .slice (sl i).1 (sl i).2.1 (sl i).2.2) ∧ ∀ i, i < ln → (ls.getD i []).length = (sl i).2.1 ∧ (sl i).2.1 ≤ (sl i).2.2 ∧ ERow w (sl i).1 (sl i).2.1 (fun j => (ls.getD i []).getD j ent0)
theorem LsRow.below {w w' : World} {la : Option Addr} {ln : Nat} {sl : Nat → Option Addr × Nat × Nat} {ls : List (List Ent)} (h : LsRow w la ln sl ls) (k : Below w.heap.size w w') : LsRow w' la ln sl ls :=
  ⟨h.1, h.2.1.below k, fun i hi => ⟨(h.2.2 i hi).1, (h.2.2 i hi).2.1, (h.2.2 i hi).2.2.below k⟩⟩
theorem take_flat (ls : List (List Ent)) (i : Nat) (h : i < ls.length) : (ls.take (i + 1)).flatten = (ls.take i).flatten ++ ls.getD i [] := by
  rw [take_snoc ls i [] h, List.flatten_append]; simp
theorem flat_le (ls : List (List Ent)) (i : Nat) (h : i < ls.length) : (ls.take i).flatten.length + (ls.getD i []).length ≤ ls.flatten.length := by
  have h1 : ls.flatten = (ls.take (i + 1)).flatten ++ (ls.drop (i + 1)).flatten := by rw [← List.flatten_append, List.take_append_drop]
  rw [h1, List.length_append, take_flat ls i h, List.length_append]; omega
theorem there_take (R : List Ent) (e : Ent) (j : Nat) (h : j < R.length) : (R.take (j + 1)).any (fun x => sameK x e) = ((R.take j).any (fun x => sameK x e) || sameK (R.getD j ent0) e) := by
  rw [take_snoc R j ent0 h, List.any_append]; simp
theorem keep10 {W W' : World} {b1 b2 o1 o2 : Nat} {a0 a1 a2 a3 a4 c0 c1 c2 c3 c4 : Value}
    (h : (W.cell? ⟨b1, o1, none⟩ = some a0 ∧ W.cell? ⟨b1, o1 + 1, none⟩ = some a1 ∧ W.cell? ⟨b1, o1 + 2, none⟩ = some a2 ∧ W.cell? ⟨b1, o1 + 3, none⟩ = some a3 ∧ W.cell? ⟨b1, o1 + 4, none⟩ = some a4) ∧
      (W.cell? ⟨b2, o2, none⟩ = some c0 ∧ W.cell? ⟨b2, o2 + 1, none⟩ = some c1 ∧ W.cell? ⟨b2, o2 + 2, none⟩ = some c2 ∧ W.cell? ⟨b2, o2 + 3, none⟩ = some c3 ∧ W.cell? ⟨b2, o2 + 4, none⟩ = some c4) ∧ b1 < W.heap.size ∧ b2 < W.heap.size)
    (k : Below W.heap.size W W') :
    ((W'.cell? ⟨b1, o1, none⟩ = some a0 ∧ W'.cell? ⟨b1, o1 + 1, none⟩ = some a1 ∧ W'.cell? ⟨b1, o1 + 2, none⟩ = some a2 ∧ W'.cell? ⟨b1, o1 + 3, none⟩ = some a3 ∧ W'.cell? ⟨b1, o1 + 4, none⟩ = some a4) ∧
      (W'.cell? ⟨b2, o2, none⟩ = some c0 ∧ W'.cell? ⟨b2, o2 + 1, none⟩ = some c1 ∧ W'.cell? ⟨b2, o2 + 2, none⟩ = some c2 ∧ W'.cell? ⟨b2, o2 + 3, none⟩ = some c3 ∧ W'.cell? ⟨b2, o2 + 4, none⟩ = some c4) ∧ b1 < W'.heap.size ∧ b2 < W'.heap.size) := by
  obtain ⟨⟨h0, h1, h2, h3, h4⟩, ⟨g0, g1, g2, g3, g4⟩, hb1, hb2⟩ := h
  exact ⟨⟨(k.cell (p := ⟨b1, o1, Option.none⟩) hb1).trans h0, (k.cell (p := ⟨b1, o1 + 1, Option.none⟩) hb1).trans h1, (k.cell (p := ⟨b1, o1 + 2, Option.none⟩) hb1).trans h2, (k.cell (p := ⟨b1, o1 + 3, Option.none⟩) hb1).trans h3, (k.cell (p := ⟨b1, o1 + 4, Option.none⟩) hb1).trans h4⟩,
    ⟨(k.cell (p := ⟨b2, o2, Option.none⟩) hb2).trans g0, (k.cell (p := ⟨b2, o2 + 1, Option.none⟩) hb2).trans g1, (k.cell (p := ⟨b2, o2 + 2, Option.none⟩) hb2).trans g2, (k.cell (p := ⟨b2, o2 + 3, Option.none⟩) hb2).trans g3, (k.cell (p := ⟨b2, o2 + 4, Option.none⟩) hb2).trans g4⟩,
    Nat.lt_of_lt_of_le hb1 k.size, Nat.lt_of_lt_of_le hb2 k.size⟩

set_option maxHeartbeats 6400000 in
set_option maxRecDepth 100000 in
theorem rmerge_any (la : Option Addr) (ln lcap : Nat) (sl : Nat → Option Addr × Nat × Nat) (ls : List (List Ent)) (w : World) (hrow : LsRow w la ln sl ls) (hn : ln ≤ 140737488351232) (hfl : ls.flatten.length * 56 ≤ 140737488351232) :
    Calls Try.prog 13 #[.slice la ln lcap] w (OwnR w.heap.size 39 (mpAll [] ls.flatten) w) := by
  have HLR := Lib.hid hrow
  have HLL := Lib.hid hrow.1
  clear hrow
  go_enter Try.func13, Try.ntmps13
  go_wp2_with fail
  go_loopw [3, 4] (fun so si wr => ∃ (i m : Nat) (p : Option Addr) (d : Nat) (R : List Ent), si = .int .i64 i ∧ i ≤ ln ∧ so = .slice p m d ∧ Hid (wr.ownsRow w.heap.size 39 5 (.slice p m d) m (ecells R)) ∧ Hid (R = mpAll [] (ls.take i).flatten) ∧ Hid (m = R.length) ∧ Below w.heap.size w wr) (fun _ si _ => ln - (intOf si).toNat)
  case atStart => exact ⟨0, 0, none, 0, [], rfl, by omega, rfl, World.ownsRow_nil _ _ _ _, rfl, rfl, Below.refl _ _⟩
  case round =>
    obtain ⟨i, m, p, d, R, rfl, hi, rfl, hown, hR, hm, hbel⟩ := hrel
    by_cases hlt : i < ln
    · have HFT := Lib.hid (take_flat ls i (by rw [HLL.out]; exact hlt))
      have HFL := flat_le ls i (by rw [HLL.out]; exact hlt)
      obtain ⟨lb, loff, rfl, hlb, hlc⟩ := HLR.out.2.1.at (by omega)
      have hlci := hlc i hlt
      obtain ⟨hl1, hl2, hl3⟩ := HLR.out.2.2 i hlt
      obtain ⟨⟨a, n, c⟩, hs⟩ : ∃ s, s = sl i := ⟨_, rfl⟩
      rw [← hs] at hlci hl1 hl2 hl3
      simp only at hlci hl1 hl2 hl3
      obtain ⟨L, hL⟩ : ∃ L, L = ls.getD i [] := ⟨_, rfl⟩
      rw [← hL] at hl1 hl3 HFT HFL
      have HL := Lib.hid hl1
      have HER := Lib.hid hl3
      have i1 : (0 : Int) ≤ (i : Int) := by omega
      have i2 : (i : Int) < (ln : Int) := by omega
      have HLB := Lib.hid hlb
      have HLC := Lib.hid hlci
      have hFT0 := HFL
      rw [hl1] at hFT0
      obtain ⟨ft, hft⟩ : ∃ ft, ft = (ls.take i).flatten := ⟨_, rfl⟩
      rw [← hft] at hR HFT hFT0
      have hftn : ft.length + n ≤ 2513169434843 := by omega
      clear hlc hl1 hl3 hs hL hlb hlci HFL hft hFT0
      obtain ⟨w1, rfl⟩ : ∃ w1 : World, w1 = wr := ⟨_, rfl⟩
      have HB1 := Lib.hid hbel
      clear hbel
      go_wp2_with fail
      go_loopw [3, 5] (fun so sk wr => ∃ (k m : Nat) (p : Option Addr) (d : Nat) (R : List Ent), sk = .int .i64 k ∧ k ≤ n ∧ so = .slice p m d ∧ Hid (wr.ownsRow w.heap.size 39 5 (.slice p m d) m (ecells R)) ∧ Hid (R = mpAll [] (ft ++ L.take k)) ∧ Hid (m = R.length) ∧ Hid (Below w.heap.size w wr)) (fun _ sk _ => n - (intOf sk).toNat)
      case atStart => exact ⟨0, m, p, d, R, rfl, by omega, rfl, hown, by rw [List.take_zero, List.append_nil]; exact hR, hm, HB1⟩
      case round =>
        clear hown hR hm
        obtain ⟨k, m, p, d, R, rfl, hk, rfl, hown, hR, hm, hbel⟩ := hrel
        obtain ⟨w2, rfl⟩ : ∃ w2 : World, w2 = wr := ⟨_, rfl⟩
        have hbw := hbel.out
        have l0 := (hbw.cell (p := ⟨lb, loff + i, none⟩) HLB.out).trans HLC.out
        have hmb : m ≤ ft.length + k := by
          have h1 := mpAll_len (ft ++ L.take k) []
          rw [← hR.out, ← hm.out, List.length_append, List.length_take] at h1
          simp at h1; omega
        by_cases hkn : k < n
        · obtain ⟨eb, eoff, rfl, heb, hec⟩ := HER.out.at (by omega)
          have hd := hec k hkn
          have hts := Lib.hid (show mpAll [] (ft ++ L.take (k + 1)) = mpE R (L.getD k ent0) by rw [take_snoc L k ent0 (by rw [HL.out]; exact hkn), ← List.append_assoc, mpAll_snoc, ← hR.out])
          have hRS := Lib.hid (show Sorted R by rw [hR.out]; exact mpAll_sorted _ sorted_nil)
          generalize L.getD k ent0 = x at hd hts
          obtain ⟨k0, q0, g0, v0, u0⟩ := x
          simp only at hd
          obtain ⟨d0, d1, d2, d3, d4⟩ := hd
          have c0 := (hbw.cell (p := ⟨eb, eoff + k * 5, none⟩) heb).trans d0
          have c1 := (hbw.cell (p := ⟨eb, eoff + k * 5 + 1, none⟩) heb).trans d1
          have c2 := (hbw.cell (p := ⟨eb, eoff + k * 5 + 2, none⟩) heb).trans d2
          have c3 := (hbw.cell (p := ⟨eb, eoff + k * 5 + 3, none⟩) heb).trans d3
          have c4 := (hbw.cell (p := ⟨eb, eoff + k * 5 + 4, none⟩) heb).trans d4
          have k1 : (0 : Int) ≤ (k : Int) := by omega
          have k2 : (k : Int) < (n : Int) := by omega
          clear hec d0 d1 d2 d3 d4 heb
          obtain ⟨N, hN⟩ : ∃ N, N = lessN ⟨k0, q0, g0, v0, u0⟩ R := ⟨_, rfl⟩
          have hNm : N ≤ m := by rw [hN, hm.out]; exact lessN_le _ R
          have HLT := Lib.hid (fun j (hj : j < m) => (show lessE (R.getD j ent0) ⟨k0, q0, g0, v0, u0⟩ = decide (j < N) by
            by_cases h : j < N
            · rw [lessN_lt _ R j (by omega)]; simp [h]
            · rw [lessN_ge hRS.out (by omega) (by rw [← hm.out]; exact hj)]; simp [h]))
          have HN := Lib.hid hN
          have hbx := below_alloc (Below.refl w2.heap.size w2) (.cells #[.string k0, .int .i64 q0, .bool g0, .string v0, .int .i64 u0] 39)
          have hE0 : EBox (w2.alloc (.cells #[.string k0, .int .i64 q0, .bool g0, .string v0, .int .i64 u0] 39)) w2.heap.size 39 ⟨k0, q0, g0, v0, u0⟩ := heap_alloc_new _ _
          clear hN
          go_wp2_with fail
          generalize hW : World.alloc _ _ = W0
          rw [hW] at hbx hE0
          generalize hg6 : w2.heap.size = g6 at hE0 ⊢
          have HBX := Lib.hid (chain hbw hbx)
          have HOW := Lib.hid (own_below hown.out hbx)
          have HG6 : Hid (g6 ≤ W0.heap.size) := by rw [← hg6]; exact hbx.size
          have hlk : W0.cell? ⟨lb, loff + i, none⟩ = some (.slice (some ⟨eb, eoff, none⟩) n c) := (hbx.cell (p := ⟨lb, loff + i, none⟩) (Nat.lt_of_lt_of_le HLB.out hbw.size)).trans l0
          have HLK := Lib.hid hlk
          have HROW := Lib.hid (own_erow HOW.out).2.2
          have HE := Lib.hid hE0
          clear hW hbx hown l0 c0 c1 c2 c3 c4 hbw hbel HB1 hg6 hlk hE0
          clear w2
          go_loopw [7, 8, 9] (fun s7 s8 s9 wr => ∃ j : Nat, s9 = .int .i64 j ∧ j ≤ m ∧ s7 = .int .i64 ((min N j : Nat) : Int) ∧ s8 = .bool ((R.take j).any (fun x => sameK x ⟨k0, q0, g0, v0, u0⟩)) ∧ Below W0.heap.size W0 wr) (fun _ _ s9 _ => m - (intOf s9).toNat)
          case atStart => exact ⟨0, rfl, by omega, by simp, by simp, Below.refl _ _⟩
          case round =>
            obtain ⟨j, rfl, hj, rfl, rfl, hbel⟩ := hrel
            obtain ⟨w3, rfl⟩ : ∃ w3 : World, w3 = wr := ⟨_, rfl⟩
            by_cases hjm : j < m
            · obtain ⟨ab, off, rfl, hab, hac⟩ := (HROW.out.below hbel).at (by omega)
              have hd := hac j hjm
              have hle := HLT.out j hjm
              have hta := Lib.hid (there_take R ⟨k0, q0, g0, v0, u0⟩ j (by rw [← hm.out]; exact hjm))
              generalize R.getD j ent0 = x at hd hle hta
              obtain ⟨k3, q3, g3, v3, u3⟩ := x
              simp only at hd
              have HD := Lib.hid hd
              obtain ⟨d0, d1, d2, d3, d4⟩ := hd
              have HE3 := Lib.hid (HE.out.below hbel)
              obtain ⟨e0, e1, e2, e3, e4⟩ := HE3.out.cells
              simp only at e0 e1 e2 e3 e4
              have i3 : (0 : Int) ≤ (j : Int) := by omega
              have i4 : (j : Int) < (m : Int) := by omega
              have HLE := Lib.hid hle
              clear hac hle
              generalize (R.take j).any (fun x => sameK x ⟨k0, q0, g0, v0, u0⟩) = th at hta ⊢
              go_wp2_with fail
              go_cut [60] (fun s60 wx => s60 = .bool (sameK ⟨k3, q3, g3, v3, u3⟩ ⟨k0, q0, g0, v0, u0⟩) ∧ ∃ nd, wx = w3.drewN nd)
              case first =>
                by_cases hk : k3 = k0
                · subst hk
                  by_cases hq : q3 = q0
                  · subst hq
                    go_quiet (fail)
                    go_wp2_with fail
                    go_meet
                    exact ⟨by simp [sameK], _, rfl⟩
                  · have hqf : (q3 == q0) = false := ef hq
                    have HQ := Lib.hid hq
                    clear hq
                    go_quiet (fail)
                    go_wp2_with fail
                    go_meet
                    exact ⟨by simp [sameK, HQ.out], _, rfl⟩
                · have hkk : (k3.toList == k0.toList) = false := beq_eq_false_iff_ne.2 fun e => hk (toList_inj e)
                  have HK := Lib.hid hk
                  clear hk
                  go_quiet (fail)
                  go_wp2_with fail
                  go_meet
                  exact ⟨by simp [sameK, HK.out], _, rfl⟩
              case rest =>
              obtain ⟨rfl, nd, hwc⟩ := hcut
              generalize sameK ⟨k3, q3, g3, v3, u3⟩ ⟨k0, q0, g0, v0, u0⟩ = sm at hta ⊢
              obtain ⟨w4, hw4⟩ : ∃ w4, w4 = wc := ⟨_, rfl⟩
              go_upto_if 60 with fail
              go_cut [8] (fun s8 wx => s8 = .bool (th || sm) ∧ wx = w4)
              case first =>
                cases sm with
                | true =>
                  go_wp2_with fail
                  go_meet
                  exact ⟨by simp, hw4.symm⟩
                | false =>
                  go_wp2_with fail
                  go_meet
                  exact ⟨by simp, hw4.symm⟩
              case rest =>
              obtain ⟨rfl, hwc5⟩ := hcut
              subst hwc5
              subst hw4
              subst hwc
              have HLS := Lib.hid (fun W : World => rless_any k3 q3 g3 v3 u3 k0 q0 g0 v0 u0 W)
              rw [HLE.out] at HLS
              have HTA := Lib.hid hta.out.symm
              generalize (th || sm) = th2 at HTA ⊢
              have H0 : Hid ((((w3.drewN nd).cell? ⟨ab, off + j * 5, none⟩ = some (.string k3) ∧ (w3.drewN nd).cell? ⟨ab, off + j * 5 + 1, none⟩ = some (.int .i64 q3) ∧ (w3.drewN nd).cell? ⟨ab, off + j * 5 + 2, none⟩ = some (.bool g3) ∧ (w3.drewN nd).cell? ⟨ab, off + j * 5 + 3, none⟩ = some (.string v3) ∧ (w3.drewN nd).cell? ⟨ab, off + j * 5 + 4, none⟩ = some (.int .i64 u3)) ∧
                ((w3.drewN nd).cell? ⟨g6, 0, none⟩ = some (.string k0) ∧ (w3.drewN nd).cell? ⟨g6, 0 + 1, none⟩ = some (.int .i64 q0) ∧ (w3.drewN nd).cell? ⟨g6, 0 + 2, none⟩ = some (.bool g0) ∧ (w3.drewN nd).cell? ⟨g6, 0 + 3, none⟩ = some (.string v0) ∧ (w3.drewN nd).cell? ⟨g6, 0 + 4, none⟩ = some (.int .i64 u0)) ∧ ab < (w3.drewN nd).heap.size ∧ g6 < (w3.drewN nd).heap.size)) :=
                ⟨HD.out, HE3.out.cells, hab, lt_of_block HE3.out⟩
              clear d0 d1 d2 d3 d4 e0 e1 e2 e3 e4 hta
              go_wp2_with fail
              go_region_held3 (fun w' => ((w'.cell? ⟨ab, off + j * 5, none⟩ = some (.string k3) ∧ w'.cell? ⟨ab, off + j * 5 + 1, none⟩ = some (.int .i64 q3) ∧ w'.cell? ⟨ab, off + j * 5 + 2, none⟩ = some (.bool g3) ∧ w'.cell? ⟨ab, off + j * 5 + 3, none⟩ = some (.string v3) ∧ w'.cell? ⟨ab, off + j * 5 + 4, none⟩ = some (.int .i64 u3)) ∧
                (w'.cell? ⟨g6, 0, none⟩ = some (.string k0) ∧ w'.cell? ⟨g6, 0 + 1, none⟩ = some (.int .i64 q0) ∧ w'.cell? ⟨g6, 0 + 2, none⟩ = some (.bool g0) ∧ w'.cell? ⟨g6, 0 + 3, none⟩ = some (.string v0) ∧ w'.cell? ⟨g6, 0 + 4, none⟩ = some (.int .i64 u0)) ∧ ab < w'.heap.size ∧ g6 < w'.heap.size))
                (first | exact H0.out | exact keep10 (W := w3.drewN (nd + 1)) H0.out hb3)
                (first | (go_at_call 25; refine (HLS.out _).mono ?_; rintro e w5 ⟨rfl, hb3⟩))
              all_goals
                have hz3 := Below.trans (drewN (n := nd + 1) hbel) (hb3.mono hbel.size)
                clear hb3
                by_cases him : j < N
                · have hdm : decide (j < N) = true := dt him
                  rw [Nat.min_eq_right (by omega)]
                  have hmin : min N (j + 1) = j + 1 := by omega
                  have HMI := Lib.hid hmin
                  clear hmin
                  go_wp2_with fail
                  go_roundw
                  case rel => exact ⟨j + 1, by go_num, by omega, by rw [HMI.out]; go_num, by rw [← HTA.out], hz3⟩
                  case measure => simp [intOf]; omega
                · have hdm : decide (j < N) = false := df him
                  rw [Nat.min_eq_left (by omega)]
                  have hmin : min N (j + 1) = N := by omega
                  have HMI := Lib.hid hmin
                  clear hmin
                  go_wp2_with fail
                  go_roundw
                  case rel => exact ⟨j + 1, by go_num, by omega, by rw [HMI.out], by rw [← HTA.out], hz3⟩
                  case measure => simp [intOf]; omega
            · obtain rfl : j = m := by omega
              rw [Nat.min_eq_left hNm]
              have hth : (R.take j).any (fun x => sameK x ⟨k0, q0, g0, v0, u0⟩) = thereE R ⟨k0, q0, g0, v0, u0⟩ := by rw [hm.out, List.take_length]; rfl
              rw [hth]
              have hpe := Lib.hid (show mpE R ⟨k0, q0, g0, v0, u0⟩ = if thereE R ⟨k0, q0, g0, v0, u0⟩ = true then R else insE R N ⟨k0, q0, g0, v0, u0⟩ by rw [HN.out]; rfl)
              generalize thereE R ⟨k0, q0, g0, v0, u0⟩ = tr at hpe ⊢
              have hown3 := Lib.hid (own_below HOW.out hbel)
              have hbel3 := Lib.hid (chain HBX.out hbel)
              cases tr with
              | true =>
                rw [if_pos rfl] at hpe
                clear hth
                go_wp2_with fail
                go_roundw
                case rel => exact ⟨k + 1, j, p, d, R, by go_num, by omega, rfl, hown3, by rw [hts.out, hpe.out]; exact (rfl : R = R), hm, hbel3⟩
                case measure => simp [intOf]; omega
              | false =>
                rw [if_neg (by decide)] at hpe
                clear hth
                go_wp2_with fail
                obtain ⟨I, hI⟩ : ∃ I, I = insE R N ⟨k0, q0, g0, v0, u0⟩ := ⟨_, rfl⟩
                have hNR : N ≤ R.length := by rw [← hm.out]; exact hNm
                have hIl : I.length = j + 1 := by rw [hI, insE_len _ hNR, ← hm.out]
                have hIa := Lib.hid (fun t (ht : t < N) => (show I.getD t ent0 = R.getD t ent0 by rw [hI, insE_getD _ hNR, if_pos ht]))
                have hIm := Lib.hid (show I.getD N ent0 = ⟨k0, q0, g0, v0, u0⟩ by rw [hI, insE_getD _ hNR, if_neg (by omega), if_pos rfl])
                have hIb := Lib.hid (fun t (ht : N ≤ t) => (show I.getD (t + 1) ent0 = R.getD t ent0 by rw [hI, insE_getD _ hNR, if_neg (by omega), if_neg (by omega)]; rfl))
                rw [← hI] at hpe
                have HIL := Lib.hid hIl
                have HRW3 := Lib.hid (own_erow hown3.out).2.2
                have HE3 := Lib.hid (HE.out.below hbel)
                clear hI hIl hNR hown3 hbel HROW HLT HOW HBX HLK HE
                go_loopw [11, 12] (fun so si wr => ∃ (t cc : Nat) (p2 : Option Addr) (d2 : Nat), si = .int .i64 t ∧ t ≤ j ∧ cc ≤ t + 1 ∧ Hid ((t ≤ N → cc = t) ∧ (N < t → cc = t + 1)) ∧ so = .slice p2 cc d2 ∧ Hid (wr.ownsRow w3.heap.size 39 5 (.slice p2 cc d2) cc (ecells (I.take cc))) ∧ Below w3.heap.size w3 wr) (fun _ si _ => j - (intOf si).toNat)
                case atStart => exact ⟨0, 0, none, 0, rfl, by omega, by omega, ⟨fun _ => rfl, fun h => by omega⟩, rfl, World.ownsRow_nil _ _ _ _, Below.refl _ _⟩
                case round =>
                  obtain ⟨t, cc, p2, d2, rfl, ht, hcc, hct, rfl, hown, hbel⟩ := hrel
                  obtain ⟨w4, rfl⟩ : ∃ w4 : World, w4 = wr := ⟨_, rfl⟩
                  by_cases htm : t < j
                  · obtain ⟨ab, off, rfl, hab, hac⟩ := HRW3.out.at (by omega)
                    have hd := hac t htm
                    obtain ⟨x, hx⟩ : ∃ x, x = R.getD t ent0 := ⟨_, rfl⟩
                    rw [← hx] at hd
                    have HX := Lib.hid hx
                    obtain ⟨k3, q3, g3, v3, u3⟩ := x
                    simp only at hd
                    obtain ⟨d0, d1, d2', d3, d4⟩ := hd
                    have i3 : (0 : Int) ≤ (t : Int) := by omega
                    have i4 : (t : Int) < (j : Int) := by omega
                    have HAB := Lib.hid hab
                    have HD := Lib.hid (And.intro d0 (And.intro d1 (And.intro d2' (And.intro d3 d4))))
                    clear hac hx hab d0 d1 d2' d3 d4
                    by_cases htN : t = N
                    · subst htN
                      obtain rfl : cc = t := hct.out.1 (by omega)
                      have HE4 := HE3.out.below hbel
                      obtain ⟨e0, e1, e2, e3, e4⟩ := HE4.cells
                      simp only at e0 e1 e2 e3 e4
                      have HTK := Lib.hid (show I.take (cc + 1) = I.take cc ++ [⟨k0, q0, g0, v0, u0⟩] by rw [take_snoc I cc ent0 (by rw [HIL.out]; omega), hIm.out])
                      have HTK2 := Lib.hid (show I.take (cc + 1 + 1) = I.take (cc + 1) ++ [⟨k3, q3, g3, v3, u3⟩] by rw [take_snoc I (cc + 1) ent0 (by rw [HIL.out]; omega), hIb.out cc (by omega), HX.out])
                      clear HE4
                      go_wp2_with (at_builtin; refine wpList_push2 rfl _ _ 24 rfl Try.underlying24 infoR06 rfl (by decide) rfl _ rfl ?c1 rfl rfl hown.out ?c2 ?c3 ?c4 ?_)
                      case c1 => simp [Value.oneCell']
                      case c2 => exact hbel.size
                      case c3 => unfold maxLen; omega
                      case c4 => omega
                      intro a5 cap5 w5 hown5 _ hb5
                      have HW5 : Hid (w5.ownsRow w3.heap.size 39 5 (.slice a5 (cc + 1) cap5) (cc + 1) (ecells (I.take (cc + 1)))) := by rw [HTK.out, ecells_snoc]; exact hown5
                      have hb6 := hbel.trans hb5
                      have f0 := (hb6.cell (p := ⟨ab, off + cc * 5, none⟩) HAB.out).trans HD.out.1
                      have f1 := (hb6.cell (p := ⟨ab, off + cc * 5 + 1, none⟩) HAB.out).trans HD.out.2.1
                      have f2 := (hb6.cell (p := ⟨ab, off + cc * 5 + 2, none⟩) HAB.out).trans HD.out.2.2.1
                      have f3 := (hb6.cell (p := ⟨ab, off + cc * 5 + 3, none⟩) HAB.out).trans HD.out.2.2.2.1
                      have f4 := (hb6.cell (p := ⟨ab, off + cc * 5 + 4, none⟩) HAB.out).trans HD.out.2.2.2.2
                      clear hown5 hb5 e0 e1 e2 e3 e4 hown hbel HTK
                      go_wp2_with (at_builtin; refine wpList_push2 rfl _ _ 24 rfl Try.underlying24 infoR06 rfl (by decide) rfl _ rfl ?d1 rfl rfl HW5.out ?d2 ?d3 ?d4 ?_)
                      case d1 => simp [Value.oneCell']
                      case d2 => exact hb6.size
                      case d3 => unfold maxLen; omega
                      case d4 => omega
                      intro a6 cap6 w6 hown6 _ hb7
                      have HW6 : Hid (w6.ownsRow w3.heap.size 39 5 (.slice a6 (cc + 1 + 1) cap6) (cc + 1 + 1) (ecells (I.take (cc + 1 + 1)))) := by rw [HTK2.out, ecells_snoc]; exact hown6
                      have hb8 := hb6.trans hb7
                      clear hown6 hb7 hb6 HW5 f0 f1 f2 f3 f4
                      go_wp2_with fail
                      go_roundw
                      case rel => exact ⟨cc + 1, cc + 1 + 1, a6, cap6, by go_num, by omega, by omega, ⟨fun h => by omega, fun _ => rfl⟩, rfl, HW6, hb8⟩
                      case measure => simp [intOf]; omega
                    · have et : ((t : Int) == (N : Int)) = false := ef (by omega)
                      have f0 := (hbel.cell (p := ⟨ab, off + t * 5, none⟩) HAB.out).trans HD.out.1
                      have f1 := (hbel.cell (p := ⟨ab, off + t * 5 + 1, none⟩) HAB.out).trans HD.out.2.1
                      have f2 := (hbel.cell (p := ⟨ab, off + t * 5 + 2, none⟩) HAB.out).trans HD.out.2.2.1
                      have f3 := (hbel.cell (p := ⟨ab, off + t * 5 + 3, none⟩) HAB.out).trans HD.out.2.2.2.1
                      have f4 := (hbel.cell (p := ⟨ab, off + t * 5 + 4, none⟩) HAB.out).trans HD.out.2.2.2.2
                      have HTK := Lib.hid (show I.take (cc + 1) = I.take cc ++ [⟨k3, q3, g3, v3, u3⟩] by
                        by_cases h : t ≤ N
                        · have h2 := hct.out.1 h
                          rw [take_snoc I cc ent0 (by rw [HIL.out]; omega), h2, hIa.out t (by omega), HX.out]
                        · have h2 := hct.out.2 (by omega)
                          rw [take_snoc I cc ent0 (by rw [HIL.out]; omega), h2, hIb.out t (by omega), HX.out])
                      have hct2 : Hid ((t + 1 ≤ N → cc + 1 = t + 1) ∧ (N < t + 1 → cc + 1 = t + 1 + 1)) := ⟨fun h => by rw [hct.out.1 (by omega)], fun h => by rw [hct.out.2 (by omega)]⟩
                      clear htN
                      go_wp2_with (at_builtin; refine wpList_push2 rfl _ _ 24 rfl Try.underlying24 infoR06 rfl (by decide) rfl _ rfl ?c1 rfl rfl hown.out ?c2 ?c3 ?c4 ?_)
                      case c1 => simp [Value.oneCell']
                      case c2 => exact hbel.size
                      case c3 => unfold maxLen; omega
                      case c4 => omega
                      intro a5 cap5 w5 hown5 _ hb5
                      have HW5 : Hid (w5.ownsRow w3.heap.size 39 5 (.slice a5 (cc + 1) cap5) (cc + 1) (ecells (I.take (cc + 1)))) := by rw [HTK.out, ecells_snoc]; exact hown5
                      have hb6 := hbel.trans hb5
                      clear hown5 hb5 hown hbel HTK f0 f1 f2 f3 f4 et
                      go_wp2_with fail
                      go_roundw
                      case rel => exact ⟨t + 1, cc + 1, a5, cap5, by go_num, by omega, by omega, hct2, rfl, HW5, hb6⟩
                      case measure => simp [intOf]; omega
                  · obtain rfl : t = j := by omega
                    have hIt : Hid (I.take (t + 1) = I) := List.take_of_length_le (by rw [HIL.out]; exact Nat.le_refl _)
                    have hI2 := Lib.hid (show mpAll [] (ft ++ L.take (k + 1)) = I by rw [hts.out, hpe.out])
                    by_cases htN : N = t
                    · subst htN
                      obtain rfl : cc = N := hct.out.1 (by omega)
                      have HE4 := HE3.out.below hbel
                      obtain ⟨e0, e1, e2, e3, e4⟩ := HE4.cells
                      simp only at e0 e1 e2 e3 e4
                      have HTK := Lib.hid (show I.take (cc + 1) = I.take cc ++ [⟨k0, q0, g0, v0, u0⟩] by rw [take_snoc I cc ent0 (by rw [HIL.out]; omega), hIm.out])
                      clear HE4
                      go_wp2_with (at_builtin; refine wpList_push2 rfl _ _ 24 rfl Try.underlying24 infoR06 rfl (by decide) rfl _ rfl ?c1 rfl rfl hown.out ?c2 ?c3 ?c4 ?_)
                      case c1 => simp [Value.oneCell']
                      case c2 => exact hbel.size
                      case c3 => unfold maxLen; omega
                      case c4 => omega
                      intro a5 cap5 w5 hown5 _ hb5
                      have HW5 : Hid (w5.ownsRow w3.heap.size 39 5 (.slice a5 (cc + 1) cap5) (cc + 1) (ecells I)) := by rw [← hIt.out, HTK.out, ecells_snoc]; exact hown5
                      have HW6 := Lib.hid (own_lower HW5.out hbel3.out.size)
                      have hb6 := Lib.hid (hbel3.out.trans ((hbel.trans hb5).mono hbel3.out.size))
                      clear hown5 hb5 e0 e1 e2 e3 e4 hown hbel HTK
                      go_wp2_with fail
                      go_roundw
                      case rel => exact ⟨k + 1, cc + 1, a5, cap5, I, by go_num, by omega, rfl, HW6, hI2.out.symm, HIL.out.symm, hb6⟩
                      case measure => simp [intOf]; omega
                    · obtain rfl : cc = t + 1 := hct.out.2 (by omega)
                      have et : ((N : Int) == (t : Int)) = false := ef (by omega)
                      have HW6 : Hid (w4.ownsRow w.heap.size 39 5 (.slice p2 (t + 1) d2) (t + 1) (ecells I)) := by have := own_lower hown.out hbel3.out.size; rw [hIt.out] at this; exact this
                      have hb6 := Lib.hid (hbel3.out.trans (hbel.mono hbel3.out.size))
                      clear htN hown hbel
                      go_wp2_with fail
                      go_roundw
                      case rel => exact ⟨k + 1, t + 1, p2, d2, I, by go_num, by omega, rfl, HW6, hI2.out.symm, HIL.out.symm, hb6⟩
                      case measure => simp [intOf]; omega
        · obtain rfl : k = n := by omega
          go_wp2_with fail
          go_roundw
          case rel => exact ⟨i + 1, m, p, d, R, by go_num, by omega, rfl, hown, by rw [HFT.out]; have h9 := hR.out; rw [← HL.out, List.take_length] at h9; exact h9, hm, hbw⟩
          case measure => simp [intOf]; omega
    · obtain rfl : i = ln := by omega
      go_wp2_with fail
      go_ret
      have he : (ls.take i).flatten = ls.flatten := by rw [← HLL.out, List.take_length]
      have hr := hR.out
      rw [he] at hr
      have hm2 := hm.out
      have ho := hown.out
      subst hm2
      rw [hr] at ho ⊢
      exact ⟨p, d, rfl, ho, hbel⟩
end Go.Proofs.Ytmgdcebbeglcmaa.Ew
