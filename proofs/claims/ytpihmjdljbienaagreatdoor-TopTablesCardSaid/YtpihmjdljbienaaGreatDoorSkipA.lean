/- The walk of ahead: on each floor the last node ahead of an entry. -/
import Derived.Test.YtpihmjdljbienaaGreatDoorGh
import Derived.Test.YtpihmjdljbienaaGreatDoorCmpW
import Derived.Deep.RegionHeld3
import Derived.Deep.DeepCutAuto
namespace Go.Proofs.YtpihmjdljbienaaGreatDoor.Sw
open Ew
open Go.RowKit
open En B
set_option linter.unusedVariables false

theorem cells8 {w : World} {g : Nat} {t : TypeId} {a0 a1 a2 a3 a4 a5 a6 a7 : Value} (h : w.heap[g]? = some (.cells #[a0, a1, a2, a3, a4, a5, a6, a7] t (0, 0))) :
    w.cell? ⟨g, 0, none⟩ = some a0 ∧ w.cell? ⟨g, 1, none⟩ = some a1 ∧ w.cell? ⟨g, 2, none⟩ = some a2 ∧ w.cell? ⟨g, 3, none⟩ = some a3 ∧ w.cell? ⟨g, 4, none⟩ = some a4 ∧ w.cell? ⟨g, 5, none⟩ = some a5 ∧ w.cell? ⟨g, 6, none⟩ = some a6 ∧ w.cell? ⟨g, 7, none⟩ = some a7 :=
  ⟨cell_of_row w g 0 _ _ _ h, cell_of_row w g 1 _ _ _ h, cell_of_row w g 2 _ _ _ h, cell_of_row w g 3 _ _ _ h, cell_of_row w g 4 _ _ _ h, cell_of_row w g 5 _ _ _ h, cell_of_row w g 6 _ _ _ h, cell_of_row w g 7 _ _ _ h⟩
theorem set8 {w : World} {g : Nat} {t : TypeId} {a0 a1 a2 a3 a4 a5 a6 a7 : Value} (h : w.heap[g]? = some (.cells #[a0, a1, a2, a3, a4, a5, a6, a7] t (0, 0))) (b0 b1 b2 b3 b4 b5 b6 b7 : Value) :
    ((((((((w.setCell ⟨g, 0, none⟩ b0).setCell ⟨g, 1, none⟩ b1).setCell ⟨g, 2, none⟩ b2).setCell ⟨g, 3, none⟩ b3).setCell ⟨g, 4, none⟩ b4).setCell ⟨g, 5, none⟩ b5).setCell ⟨g, 6, none⟩ b6).setCell ⟨g, 7, none⟩ b7).heap[g]? = some (.cells #[b0, b1, b2, b3, b4, b5, b6, b7] t (0, 0)) := by
  have h0 := heap_setCell_same w g 0 _ t b0 h
  have h1 := heap_setCell_same _ g 1 _ t b1 h0
  have h2 := heap_setCell_same _ g 2 _ t b2 h1
  have h3 := heap_setCell_same _ g 3 _ t b3 h2
  have h4 := heap_setCell_same _ g 4 _ t b4 h3
  have h5 := heap_setCell_same _ g 5 _ t b5 h4
  have h6 := heap_setCell_same _ g 6 _ t b6 h5
  have h7 := heap_setCell_same _ g 7 _ t b7 h6
  rw [h7]
  simp only [List.setIfInBounds_toArray, List.set_cons_zero, List.set_cons_succ]
theorem below_set8 {w a : World} {B g : Nat} (h : Below B w a) (hg : B ≤ g) (b0 b1 b2 b3 b4 b5 b6 b7 : Value) :
    Below B w ((((((((a.setCell ⟨g, 0, none⟩ b0).setCell ⟨g, 1, none⟩ b1).setCell ⟨g, 2, none⟩ b2).setCell ⟨g, 3, none⟩ b3).setCell ⟨g, 4, none⟩ b4).setCell ⟨g, 5, none⟩ b5).setCell ⟨g, 6, none⟩ b6).setCell ⟨g, 7, none⟩ b7) :=
  (((((((h.setCell (p := ⟨g, 0, none⟩) hg _).setCell (p := ⟨g, 1, none⟩) hg _).setCell (p := ⟨g, 2, none⟩) hg _).setCell (p := ⟨g, 3, none⟩) hg _).setCell (p := ⟨g, 4, none⟩) hg _).setCell (p := ⟨g, 5, none⟩) hg _).setCell (p := ⟨g, 6, none⟩) hg _).setCell (p := ⟨g, 7, none⟩) hg _
theorem keep10s {W W' : World} {b1 b2 o1 o2 : Nat} {a0 a1 a2 a3 a4 c0 c1 c2 c3 c4 : Value}
    (h : (W.cell? ⟨b1, o1, none⟩ = some a0 ∧ W.cell? ⟨b1, o1 + 1, none⟩ = some a1 ∧ W.cell? ⟨b1, o1 + 2, none⟩ = some a2 ∧ W.cell? ⟨b1, o1 + 3, none⟩ = some a3 ∧ W.cell? ⟨b1, o1 + 4, none⟩ = some a4) ∧
      (W.cell? ⟨b2, o2, none⟩ = some c0 ∧ W.cell? ⟨b2, o2 + 1, none⟩ = some c1 ∧ W.cell? ⟨b2, o2 + 2, none⟩ = some c2 ∧ W.cell? ⟨b2, o2 + 3, none⟩ = some c3 ∧ W.cell? ⟨b2, o2 + 4, none⟩ = some c4) ∧ b1 < W.heap.size ∧ b2 < W.heap.size)
    (k : Below W.heap.size W W') :
    (W'.cell? ⟨b1, o1, none⟩ = some a0 ∧ W'.cell? ⟨b1, o1 + 1, none⟩ = some a1 ∧ W'.cell? ⟨b1, o1 + 2, none⟩ = some a2 ∧ W'.cell? ⟨b1, o1 + 3, none⟩ = some a3 ∧ W'.cell? ⟨b1, o1 + 4, none⟩ = some a4) ∧
      (W'.cell? ⟨b2, o2, none⟩ = some c0 ∧ W'.cell? ⟨b2, o2 + 1, none⟩ = some c1 ∧ W'.cell? ⟨b2, o2 + 2, none⟩ = some c2 ∧ W'.cell? ⟨b2, o2 + 3, none⟩ = some c3 ∧ W'.cell? ⟨b2, o2 + 4, none⟩ = some c4) ∧ b1 < W'.heap.size ∧ b2 < W'.heap.size := by
  obtain ⟨⟨h0, h1, h2, h3, h4⟩, ⟨g0, g1, g2, g3, g4⟩, l1, l2⟩ := h
  have key : ∀ p : Addr, p.block < W.heap.size → W'.cell? p = W.cell? p := fun p hp => k.cell hp
  exact ⟨⟨(key _ l1).trans h0, (key _ l1).trans h1, (key _ l1).trans h2, (key _ l1).trans h3, (key _ l1).trans h4⟩, ⟨(key _ l2).trans g0, (key _ l2).trans g1, (key _ l2).trans g2, (key _ l2).trans g3, (key _ l2).trans g4⟩, Nat.lt_of_lt_of_le l1 k.size, Nat.lt_of_lt_of_le l2 k.size⟩

/-- m entries stand ahead of what is asked for, and no others -/
def Cut (ns : List Nd) (e : Ent) (m : Nat) : Prop := m ≤ ns.length ∧ (∀ i, i < m → lessE (ns.getD i nd0).e e = true) ∧ (∀ i, m ≤ i → i < ns.length → lessE (ns.getD i nd0).e e = false)
/-- the place ahead on a floor -/
def PA (lb : Nat) (ns : List Nd) (m f : Nat) : Value := .pointer (some (posA lb ns (lastIx ns f m)))
/-- the array of the results, filled from the top -/
def resA (P : Nat → Value) (k : Nat) : Array Value := ((List.range 8).map (fun i => if k ≤ i then P i else .pointer none)).toArray
theorem resA_set (P : Nat → Value) (k : Nat) : (resA P (k + 1)).setIfInBounds k (P k) = resA P k := by
  unfold resA
  apply Array.ext'
  rw [Array.toList_setIfInBounds]
  apply List.ext_getElem?
  intro i
  rw [List.getElem?_set]
  by_cases hi : k = i
  · subst hi
    by_cases hl : k < 8
    · simp [hl]
    · simp [hl]
  · rw [if_neg hi]
    by_cases hl : i < 8
    · simp only [List.getElem?_map, List.getElem?_range hl, Option.map_some]
      by_cases h2 : k ≤ i
      · rw [if_pos h2, if_pos (by omega)]
      · rw [if_neg h2, if_neg (by omega)]
    · simp [hl]

theorem ahead_exit {W : World} {T : Array Value} {g : Nat} {a0 a1 a2 a3 a4 a5 a6 a7 : Value} {post : Ending → World → Prop} (h4 : T.getD 4 undef = .pointer (some ⟨g, 0, none⟩))
    (h : W.heap[g]? = some (.cells #[a0, a1, a2, a3, a4, a5, a6, a7] 107 (0, 0))) (hp : post (.returned (.agg #[a0, a1, a2, a3, a4, a5, a6, a7])) W) :
    bodyPost Tryz.prog Tryz.f53 post .ret { tmps := T, defers := [] } W := by
  obtain ⟨c0, c1, c2, c3, c4, c5, c6, c7⟩ := cells8 h
  simp [Array.getD_eq_getD_getElem?] at h4
  refine bodyPost_ret (v := .agg #[a0, a1, a2, a3, a4, a5, a6, a7]) ?_ rfl hp
  simp [results, Tryz.results53, go_sem, c0, c1, c2, c3, c4, c5, c6, c7, h4]

set_option maxHeartbeats 1600000 in
set_option maxRecDepth 100000 in
theorem ahead_any (w : World) (B lb cn cc ha : Nat) (ca : Option Addr) (cnt size : Int) (ns : List Nd) (hl : LB w lb ca cn cc ha cnt size) (ht : Tower w B ha ns (VN ns)) (k : ByteArray) (q : Int) (g : Bool) (v : ByteArray) (u : Int) (m : Nat) (hc : Cut ns ⟨k, q, g, v, u⟩ m) :
    Calls Tryz.prog 53 #[.pointer (some ⟨lb, 0, none⟩), .agg #[.string k, .int .i64 q, .bool g, .string v, .int .i64 u]] w fun e w' =>
      e = .returned (.agg #[PA lb ns m 0, PA lb ns m 1, PA lb ns m 2, PA lb ns m 3, PA lb ns m 4, PA lb ns m 5, PA lb ns m 6, PA lb ns m 7]) ∧ Below w.heap.size w w' := by
  have HL := Lib.hid hl
  have HT := Lib.hid ht
  have HC := Lib.hid hc
  have hB0 := below_alloc (below_alloc (Below.refl w.heap.size w) (.cells #[.string k, .int .i64 q, .bool g, .string v, .int .i64 u] 45)) (.cells (resA (PA lb ns m) 8) 107)
  clear hl ht hc
  go_enter Tryz.func53, Tryz.ntmps53
  go_wp2_with fail
  go_loopw [5, 6] (fun sa sf wr => ∃ (j p : Nat), sf = .int .i64 ((j : Int) - 1) ∧ j ≤ 8 ∧ sa = .pointer (some (posA lb ns p)) ∧ p ≤ m ∧ j ≤ hP ns p ∧ Hid (EBox wr w.heap.size 45 ⟨k, q, g, v, u⟩) ∧
    Hid (wr.heap[w.heap.size + 1]? = some (.cells (resA (PA lb ns m) j) 107 (0, 0))) ∧ Below w.heap.size w wr) (fun _ sf _ => (intOf sf + 1).toNat)
  case atStart => exact ⟨8, 0, rfl, by omega, rfl, by omega, Nat.le_refl _, blk_alloc (heap_alloc_new _ _), blk_new (by simp), hB0⟩
  case round =>
    obtain ⟨j, p, rfl, hj, rfl, hpm, hjh, hE, hR, hbel⟩ := hrel
    by_cases hj0 : j = 0
    · subst hj0
      have hr8 : wr.heap[w.heap.size + 1]? = some (.cells #[PA lb ns m 0, PA lb ns m 1, PA lb ns m 2, PA lb ns m 3, PA lb ns m 4, PA lb ns m 5, PA lb ns m 6, PA lb ns m 7] 107 (0, 0)) := hR.out
      simp only [PA] at hr8 ⊢
      generalize hAA : (fun i => posA lb ns (lastIx ns i m)) = A
      have hA : ∀ i, posA lb ns (lastIx ns i m) = A i := fun i => congrFun hAA i
      simp only [hA] at hr8 ⊢
      have HAP := Lib.hid (fun i => (show PA lb ns m i = .pointer (some (A i)) by unfold PA; rw [hA]))
      clear hAA hA
      have hfz : ∀ i, wr.frozen? ⟨w.heap.size + 1, i, none⟩ = false := fun i => by simp [World.frozen?, hr8]
      obtain ⟨z0, z1, z2, z3, z4, z5, z6, z7⟩ : _ ∧ _ ∧ _ ∧ _ ∧ _ ∧ _ ∧ _ ∧ _ := ⟨hfz 0, hfz 1, hfz 2, hfz 3, hfz 4, hfz 5, hfz 6, hfz 7⟩
      obtain ⟨c0, c1, c2, c3, c4, c5, c6, c7⟩ := cells8 hr8
      have H8 := Lib.hid hr8
      clear hr8 hfz hE hR
      go_wp2_with fail
      generalize hV : World.setCell _ _ _ = W5
      have h8 : W5.heap[w.heap.size + 1]? = some (.cells #[.pointer (some (A 0)), .pointer (some (A 1)), .pointer (some (A 2)), .pointer (some (A 3)), .pointer (some (A 4)), .pointer (some (A 5)), .pointer (some (A 6)), .pointer (some (A 7))] 107 (0, 0)) := by rw [← hV]; exact set8 H8.out _ _ _ _ _ _ _ _
      have hb5 : Below w.heap.size w W5 := by rw [← hV]; exact below_set8 hbel (by omega) _ _ _ _ _ _ _ _
      clear hV
      exact ahead_exit rfl h8 ⟨by simp only [HAP.out], hb5⟩
    · obtain ⟨f, rfl⟩ : ∃ f, j = f + 1 := ⟨j - 1, by omega⟩
      have ef : ((f + 1 : Nat) : Int) - 1 = (f : Int) := by omega
      have hpl : p ≤ ns.length := by have := HC.out.1; omega
      have HTw := Lib.hid (HT.out.below hbel)
      have HLw := Lib.hid (HL.out.below hbel)
      obtain ⟨pb, po, hpos, hcell⟩ := place HLw.out HTw.out hpl
      have hcv := (HTw.out.arrs p hpl).cell (f := f) (by omega)
      rw [hpos]
      have d1 : (0 : Int) ≤ (f : Int) := by omega
      have d2 : (f : Int) < (hP ns p : Int) := by omega
      rw [ef]
      have hjh2 : f < hP ns p := by omega
      obtain ⟨wo, hwo⟩ : ∃ wo : World, wo = wr := ⟨_, rfl⟩
      have E0 := Lib.hid (show EBox wo w.heap.size 45 ⟨k, q, g, v, u⟩ by rw [hwo]; exact hE.out)
      have R0 := Lib.hid (show wo.heap[w.heap.size + 1]? = some (.cells (resA (PA lb ns m) (f + 1)) 107 (0, 0)) by rw [hwo]; exact hR.out)
      rw [← hwo] at hbel hcell hcv HTw HLw ⊢
      clear hwo hE hR hjh HTw HLw wr
      have hVN : VN ns p f = VN ns p f := rfl
      generalize hsn : VN ns p f = sn at hcv
      have HSN := Lib.hid hsn
      have HPO := Lib.hid hpos
      clear hsn hVN hpos
      go_wp2_with fail
      rw [← HPO.out]
      clear hcell hcv
      go_loopg [5, 7] (m - p) (fun gk sa sx wr => ∃ p' : Nat, gk = m - p' ∧ p' ≤ m ∧ sa = .pointer (some (posA lb ns p')) ∧ f < hP ns p' ∧ sx = VN ns p' f ∧ Hid (EBox wr w.heap.size 45 ⟨k, q, g, v, u⟩) ∧
        Hid (wr.heap[w.heap.size + 1]? = some (.cells (resA (PA lb ns m) (f + 1)) 107 (0, 0))) ∧ Below w.heap.size w wr)
      case atStart => exact ⟨p, rfl, hpm, rfl, hjh2, HSN.out.symm, E0, R0, hbel⟩
      case round =>
        obtain ⟨p2, rfl, hp2, rfl, hf2, rfl, hE, hR, hbel2⟩ := hrel
        have HTw := Lib.hid (HT.out.below hbel2)
        have HLw := Lib.hid (HL.out.below hbel2)
        have hml := HC.out.1
        unfold VN
        cases hn : nxt (ns.drop p2) f with
        | none =>
          have hlast := Lib.hid (lastIx_is (m := m) hp2 (by cases p2 with
            | zero => exact .inl rfl
            | succ j => exact .inr hf2) (fun i h1 h2 => next_none hn i h1 (by omega)))
          have hrz := fun (c : Nat) => (show wr.frozen? ⟨w.heap.size + 1, c, none⟩ = false by have := hR.out; simp [World.frozen?, this])
          have zf := hrz f
          have cf : wr.cell? ⟨w.heap.size + 1, f, none⟩ = some (if f + 1 ≤ f then PA lb ns m f else .pointer none) := by
            rw [cell_of_row wr (w.heap.size + 1) f _ _ _ hR.out]; simp [resA, show f < 8 by omega]
          rw [if_neg (by omega)] at cf
          have hR2 := Lib.hid (show (wr.setCell ⟨w.heap.size + 1, f, none⟩ (.pointer (some (posA lb ns p2)))).heap[w.heap.size + 1]? = some (.cells (resA (PA lb ns m) f) 107 (0, 0)) by
            rw [heap_setCell_same wr (w.heap.size + 1) f _ _ _ hR.out]
            have : Value.pointer (some (posA lb ns p2)) = PA lb ns m f := by unfold PA; rw [hlast.out]
            rw [this, resA_set])
          have hE2 := Lib.hid (hE.out.far (p := ⟨w.heap.size + 1, f, Option.none⟩) (by simp) (.pointer (some (posA lb ns p2))))
          have hb2 := hbel2.setCell (p := ⟨w.heap.size + 1, f, none⟩) (by simp) (.pointer (some (posA lb ns p2)))
          clear hrz HTw HLw hn hml
          show Code.wp _ _ _ _ _
          simp only [ptrV]
          go_wp2_with fail
          go_quiet (fail)
          go_wp2_with fail
          go_roundw
          case rel => exact ⟨f, p2, by go_num, by omega, rfl, hp2, by omega, hE2.out, hR2.out, (drewN hbel2).setCell (p := ⟨w.heap.size + 1, f, none⟩) (by simp) _⟩
          case measure => simp [intOf]
        | some x =>
          obtain ⟨j2, hj1, hj2, hjx, hjf, hjl⟩ := next_some hn
          have hnd := HTw.out.nodes j2 hj2
          rw [hjx] at hnd
          have HLE := Lib.hid (fun W : World => less_any x.e.key x.e.seq x.e.gone x.e.val x.e.til k q g v u W)
          have H0 : Hid ((wr.cell? ⟨x.b, 0, none⟩ = some (.string x.e.key) ∧ wr.cell? ⟨x.b, 0 + 1, none⟩ = some (.int .i64 x.e.seq) ∧ wr.cell? ⟨x.b, 0 + 2, none⟩ = some (.bool x.e.gone) ∧ wr.cell? ⟨x.b, 0 + 3, none⟩ = some (.string x.e.val) ∧ wr.cell? ⟨x.b, 0 + 4, none⟩ = some (.int .i64 x.e.til)) ∧
            (wr.cell? ⟨w.heap.size, 0, none⟩ = some (.string k) ∧ wr.cell? ⟨w.heap.size, 0 + 1, none⟩ = some (.int .i64 q) ∧ wr.cell? ⟨w.heap.size, 0 + 2, none⟩ = some (.bool g) ∧ wr.cell? ⟨w.heap.size, 0 + 3, none⟩ = some (.string v) ∧ wr.cell? ⟨w.heap.size, 0 + 4, none⟩ = some (.int .i64 u)) ∧ x.b < wr.heap.size ∧ w.heap.size < wr.heap.size) := ⟨nd_cells hnd, hE.out.cells, lt_of_block hnd, lt_of_block hE.out⟩
          have hpx := Lib.hid (show posA lb ns (j2 + 1) = ⟨x.b, 0, none⟩ by rw [posA_s, hjx])
          have hhx := Lib.hid (show f < hP ns (j2 + 1) by rw [hP_s, hjx]; exact hjf)
          by_cases hjm : j2 < m
          · have hle : lessE x.e ⟨k, q, g, v, u⟩ = true := by rw [← hjx]; exact HC.out.2.1 j2 hjm
            rw [show (⟨x.e.key, x.e.seq, x.e.gone, x.e.val, x.e.til⟩ : Ent) = x.e from rfl, hle] at HLE
            have hj2l : j2 + 1 ≤ ns.length := by omega
            obtain ⟨pb2, po2, hpos2, _⟩ := place HLw.out HTw.out hj2l
            have hns : (some x : Option Nd) = some x := rfl
            simp only [ptrV]
            clear hle hn hjx hjf hjl hnd
            go_wp2_with fail
            go_region_held3 (fun w' => (w'.cell? ⟨x.b, 0, none⟩ = some (.string x.e.key) ∧ w'.cell? ⟨x.b, 0 + 1, none⟩ = some (.int .i64 x.e.seq) ∧ w'.cell? ⟨x.b, 0 + 2, none⟩ = some (.bool x.e.gone) ∧ w'.cell? ⟨x.b, 0 + 3, none⟩ = some (.string x.e.val) ∧ w'.cell? ⟨x.b, 0 + 4, none⟩ = some (.int .i64 x.e.til)) ∧
            (w'.cell? ⟨w.heap.size, 0, none⟩ = some (.string k) ∧ w'.cell? ⟨w.heap.size, 0 + 1, none⟩ = some (.int .i64 q) ∧ w'.cell? ⟨w.heap.size, 0 + 2, none⟩ = some (.bool g) ∧ w'.cell? ⟨w.heap.size, 0 + 3, none⟩ = some (.string v) ∧ w'.cell? ⟨w.heap.size, 0 + 4, none⟩ = some (.int .i64 u)) ∧ x.b < w'.heap.size ∧ w.heap.size < w'.heap.size)
            (first | exact H0.out | exact keep10s (W := wr.drew) H0.out hb3)
            (first | (go_at_call 84; refine (HLE.out _).mono ?_; rintro e w3 ⟨rfl, hb3⟩))
            all_goals
              have hz3 := Below.trans hbel2.drew (hb3.mono hbel2.size)
              have HE3 := Lib.hid (EBox.below (w := wr.drew) hE.out hb3)
              have HR3 := Lib.hid (show w3.heap[w.heap.size + 1]? = some (.cells (resA (PA lb ns m) (f + 1)) 107 (0, 0)) from (hb3.block (w.heap.size + 1) (lt_of_block hR.out)).trans hR.out)
              have HT3 := HT.out.below hz3
              have hcv := (HT3.arrs (j2 + 1) hj2l).cell hhx.out
              obtain ⟨pb3, po3, hpos3, hcell3⟩ := place (HL.out.below hz3) HT3 hj2l
              rw [hpx.out] at hpos3
              obtain ⟨rfl, rfl⟩ : x.b = pb3 ∧ 0 = po3 := by injection hpos3 with e1 e2; exact ⟨e1, e2⟩
              have d1 : (0 : Int) ≤ (f : Int) := by omega
              have d2 : (f : Int) < (hP ns (j2 + 1) : Int) := by have := hhx.out; omega
              generalize hsn : VN ns (j2 + 1) f = sn at hcv
              have HSN := Lib.hid hsn
              simp only [Nat.zero_add] at hcell3
              clear hb3 HT3 hsn hpos3
              go_wp2_with fail
              rw [← hpx.out]
              go_roundg (m - (j2 + 1))
              case measure => omega
              case rel => exact ⟨j2 + 1, rfl, by omega, rfl, hhx.out, HSN.out.symm, HE3, HR3, hz3⟩
          · have hle : lessE x.e ⟨k, q, g, v, u⟩ = false := by rw [← hjx]; exact HC.out.2.2 j2 (by omega) hj2
            rw [show (⟨x.e.key, x.e.seq, x.e.gone, x.e.val, x.e.til⟩ : Ent) = x.e from rfl, hle] at HLE
            have hlast := Lib.hid (lastIx_is (m := m) hp2 (by cases p2 with
              | zero => exact .inl rfl
              | succ j => exact .inr hf2) (fun i h1 h2 => hjl i h1 (by omega)))
            simp only [ptrV]
            clear hle hn hjx hjf hjl hnd
            go_wp2_with fail
            go_region_held3 (fun w' => (w'.cell? ⟨x.b, 0, none⟩ = some (.string x.e.key) ∧ w'.cell? ⟨x.b, 0 + 1, none⟩ = some (.int .i64 x.e.seq) ∧ w'.cell? ⟨x.b, 0 + 2, none⟩ = some (.bool x.e.gone) ∧ w'.cell? ⟨x.b, 0 + 3, none⟩ = some (.string x.e.val) ∧ w'.cell? ⟨x.b, 0 + 4, none⟩ = some (.int .i64 x.e.til)) ∧
            (w'.cell? ⟨w.heap.size, 0, none⟩ = some (.string k) ∧ w'.cell? ⟨w.heap.size, 0 + 1, none⟩ = some (.int .i64 q) ∧ w'.cell? ⟨w.heap.size, 0 + 2, none⟩ = some (.bool g) ∧ w'.cell? ⟨w.heap.size, 0 + 3, none⟩ = some (.string v) ∧ w'.cell? ⟨w.heap.size, 0 + 4, none⟩ = some (.int .i64 u)) ∧ x.b < w'.heap.size ∧ w.heap.size < w'.heap.size)
            (first | exact H0.out | exact keep10s (W := wr.drew) H0.out hb3)
            (first | (go_at_call 84; refine (HLE.out _).mono ?_; rintro e w3 ⟨rfl, hb3⟩))
            all_goals
              have hz3 := Below.trans hbel2.drew (hb3.mono hbel2.size)
              have HE3 := EBox.below (w := wr.drew) hE.out hb3
              have HR3 : w3.heap[w.heap.size + 1]? = some (.cells (resA (PA lb ns m) (f + 1)) 107 (0, 0)) := (hb3.block (w.heap.size + 1) (lt_of_block hR.out)).trans hR.out
              have zf : w3.frozen? ⟨w.heap.size + 1, f, none⟩ = false := by simp [World.frozen?, HR3]
              have cf : w3.cell? ⟨w.heap.size + 1, f, none⟩ = some (if f + 1 ≤ f then PA lb ns m f else .pointer none) := by
                rw [cell_of_row w3 (w.heap.size + 1) f _ _ _ HR3]; simp [resA, show f < 8 by omega]
              rw [if_neg (by omega)] at cf
              have hR2 := Lib.hid (show (w3.setCell ⟨w.heap.size + 1, f, none⟩ (.pointer (some (posA lb ns p2)))).heap[w.heap.size + 1]? = some (.cells (resA (PA lb ns m) f) 107 (0, 0)) by
                rw [heap_setCell_same w3 (w.heap.size + 1) f _ _ _ HR3]
                have : Value.pointer (some (posA lb ns p2)) = PA lb ns m f := by unfold PA; rw [hlast.out]
                rw [this, resA_set])
              have hE2 := Lib.hid (HE3.far (p := ⟨w.heap.size + 1, f, Option.none⟩) (by simp) (.pointer (some (posA lb ns p2))))
              have hb2 := hz3.setCell (p := ⟨w.heap.size + 1, f, none⟩) (by simp) (.pointer (some (posA lb ns p2)))
              clear hb3 HE3 HR3
              go_wp2_with fail
              go_roundw
              case rel => exact ⟨f, p2, by go_num, by omega, rfl, hp2, by omega, hE2.out, hR2.out, hb2⟩
              case measure => simp [intOf]
end Go.Proofs.YtpihmjdljbienaaGreatDoor.Sw
