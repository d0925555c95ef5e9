/- The walk of batch.Get: the loop. -/
import Derived.Test.YtpihmjdljbienaaGreatDoorBatchD
namespace Go.Proofs.YtpihmjdljbienaaGreatDoor.Bw
open Ew
open Go.RowKit
open En B Vp Vw
set_option linter.unusedVariables false

theorem own_ne {w : World} {B n size g : Nat} {e t : TypeId} {v : Value} {xs : List Value} {cs : Array Value} {fr : Nat × Nat} (h : w.ownsRow B e size v n xs) (hg : w.heap[g]? = some (.cells cs t fr)) (hne : e ≠ t) : v.ownBlock ≠ some g := by
  rcases h.2 with ⟨rfl, _⟩ | ⟨g', cap, cur, rfl, _, hb, _⟩
  · simp [Value.ownBlock]
  · intro hh
    simp only [Value.ownBlock, Option.some.injEq] at hh
    subst hh
    rw [hb] at hg
    simp only [Option.some.injEq, Obj.cells.injEq] at hg
    exact hne hg.2.1
theorem own_setOther {w : World} {B n size : Nat} {e t : TypeId} {v : Value} {xs : List Value} {g : Nat} {x : Value} (h : w.ownsRow B e size v n xs) (hg : Cell1 w g t x) (hne : e ≠ t) (y : Value) : (w.setCell ⟨g, 0, none⟩ y).ownsRow B e size v n xs := by
  refine ⟨h.1, ?_⟩
  rcases h.2 with hv | ⟨g', cap', cur, hv, hB, hb, hr⟩
  · exact .inl hv
  · refine .inr ⟨g', cap', cur, hv, hB, (Below.heap_setCell w ⟨g, 0, none⟩ y g' fun e' => ?_).trans hb, hr⟩
    have e2 : g' = g := e'
    subst e2
    unfold Cell1 at hg
    rw [hb] at hg
    simp only [Option.some.injEq, Obj.cells.injEq] at hg
    exact hne hg.2.1
theorem item_bad {rb : Nat} {s : ByteArray} {a : Int} (hs : s.size ≤ 4611686018427387904) {r : IR} (hr : itemS s a = r) (h : r.e ≠ 0) (w : World) (hb : RBox w rb s a) :
    Calls Tryz.prog 52 #[.pointer (some ⟨rb, 0, none⟩)] w fun e w' => e = pan 94 r.e ∧ Only rb w w' := by
  subst hr
  refine (item_any rb s a hs w hb).mono ?_
  rintro e w' ⟨h1, ⟨h2, _⟩ | ⟨_, h3, _⟩⟩
  · exact absurd h2 h
  · exact ⟨h3, h1⟩
theorem item_ok {rb : Nat} {s : ByteArray} {a : Int} (hs : s.size ≤ 4611686018427387904) {r : IR} (hr : itemS s a = r) (h : r.e = 0) (w : World) (hb : RBox w rb s a) :
    Calls Tryz.prog 52 #[.pointer (some ⟨rb, 0, none⟩)] w fun e w' => e = .returned r.x.v ∧ RBox w' rb s r.next ∧ Only rb w w' := by
  subst hr
  refine (item_any rb s a hs w hb).mono ?_
  rintro e w' ⟨h1, ⟨_, h3, h4⟩ | ⟨h2, _⟩⟩
  · exact ⟨h3, h4, h1⟩
  · exact absurd h h2

set_option maxHeartbeats 1600000 in
set_option maxRecDepth 100000 in
theorem bget_run (s : ByteArray) (hs : s.size ≤ 4611686018427387904) (m : Nat) (a0 : Int) (hc : cntS s 0 = ⟨m, a0, 0⟩) (hm : m ≤ 64) (w : World) :
    Calls Tryz.prog 14 #[.string s] w (GotD w (if (itemsS s m a0 []).e ≠ 0 then ([], (itemsS s m a0 []).e) else if (itemsS s m a0 []).next < s.size then ([], 4) else ((itemsS s m a0 []).l, 0))) := by
  have hmf : ∀ (fn : Fn) (first cap : Array Value) (w : World), (Instr.makeFunc fn first cap).run Tryz.prog w = .ok (.func fn first cap) w := fun _ _ _ _ => rfl
  obtain ⟨R, hR⟩ : ∃ R, R = itemsS s m a0 [] := ⟨_, rfl⟩
  rw [← hR]
  obtain ⟨X, hXX⟩ : ∃ X, X = (if R.e ≠ 0 then (([], R.e) : List Ent × Int) else if R.next < s.size then ([], 4) else (R.l, 0)) := ⟨_, rfl⟩
  rw [← hXX]
  have HXX := Lib.hid hXX
  have HR := Lib.hid hR
  clear hXX
  have HC := Lib.hid (fun (rb : Nat) (W : World) (hX : RBox W rb s 0) => count_ok hs hc rfl W hX)
  clear hc hR
  go_enter_defers Tryz.func14, Tryz.ntmps14
  go_wp2_with fail
  generalize hW : World.alloc _ _ = W0
  have hA : Cell1 W0 w.heap.size 33 (.slice none 0 0) := by rw [← hW]; exact blk_alloc (blk_alloc (heap_alloc_new _ _))
  have hE : Cell1 W0 (w.heap.size + 1) 28 (.int .i64 0) := by rw [← hW]; exact blk_alloc (blk_new (by simp))
  have hX : RBox W0 (w.heap.size + 1 + 1) s 0 := by rw [← hW]; exact blk_new (by simp)
  have hB : Below w.heap.size w W0 := by rw [← hW]; exact below_alloc (below_alloc (below_alloc (Below.refl _ _) _) _) _
  clear hW
  refine (HC.out _ _ hX).mono ?_
  rintro e w1 ⟨rfl, hX1, ho⟩
  have HA1 := Lib.hid (hA.only ho (by omega))
  have HE1 := Lib.hid (hE.only ho (by omega))
  have hB1 := ho.below hB (by omega) (by have := hA.lt; omega)
  have HX1 := Lib.hid hX1
  clear hA hE hX hB ho hX1
  go_wp2_with fail
  go_loopw [15] (fun i wr => ∃ (j : Nat) (a : Int) (acc : List Ent) (p : Option Addr) (d : Nat), i = .int .i64 j ∧ j ≤ m ∧ Cell1 wr w.heap.size 33 (.slice p j d) ∧ Cell1 wr (w.heap.size + 1) 28 (.int .i64 0) ∧ RBox wr (w.heap.size + 1 + 1) s a ∧
    wr.ownsRow w.heap.size 45 5 (.slice p j d) j (ecells acc) ∧ Hid (itemsS s m a0 [] = itemsS s (m - j) a acc) ∧ Below w.heap.size w wr) (fun i _ => m - (intOf i).toNat)
  case atStart => exact ⟨0, a0, [], none, 0, rfl, by omega, HA1.out, HE1.out, HX1.out, World.ownsRow_nil _ _ _ _, rfl, hB1⟩
  case round =>
    obtain ⟨j, a, acc, p, d, rfl, hj, hA, hE, hX, hown, hit, hbel⟩ := hrel
    have HA := Lib.hid hA
    have HE := Lib.hid hE
    have HX := Lib.hid hX
    have HO := Lib.hid hown
    have ca := hA.cell
    have hnr := own_ne hown hX (by decide)
    have hna := own_ne hown hA (by decide)
    have hne := own_ne hown hE (by decide)
    have hlA := hA.lt
    by_cases hlt : j < m
    · obtain ⟨k, hk⟩ : ∃ k, m - j = k + 1 := ⟨m - j - 1, by omega⟩
      have hst := hit.out
      rw [hk] at hst
      obtain ⟨r, hr⟩ : ∃ r, r = itemS s a := ⟨_, rfl⟩
      simp only [itemsS] at hst
      rw [← hr] at hst
      have HST := Lib.hid hst
      have HK := Lib.hid hk
      clear hA hE hX hown hst hit hk
      by_cases h1 : r.e = 0
      · have HI := Lib.hid (fun (W : World) (hX : RBox W (w.heap.size + 1 + 1) s a) => item_ok hs hr.symm h1 W hX)
        have hx0 : ∃ k q g v u, r.x = ⟨k, q, g, v, u⟩ := ⟨_, _, _, _, _, rfl⟩
        obtain ⟨k1, q1, g1, v1, u1, hx⟩ := hx0
        have hval : r.x.v = .agg #[.string k1, .int .i64 q1, .bool g1, .string v1, .int .i64 u1] := by rw [hx]; rfl
        rw [if_neg (by simp [h1])] at HST
        have HX2 := Lib.hid hx
        have HII := Lib.hid (HI.out wr.drew HX.out)
        rw [hval] at HII
        clear hval hx hr HI
        have hrelW : ∀ (w2 : World) (a1 : Option Addr) (c1 : Nat) (w5 : World), RBox w2 (w.heap.size + 1 + 1) s r.next → Only (w.heap.size + 1 + 1) wr.drew w2 →
            w5.ownsRow w.heap.size 45 5 (.slice a1 (j + 1) c1) (j + 1) (ecells acc ++ #[.string k1, .int .i64 q1, .bool g1, .string v1, .int .i64 u1].toList) →
            Keeps [45] (w2.alloc (.cells #[.string k1, .int .i64 q1, .bool g1, .string v1, .int .i64 u1] 45)) w5 → Below w.heap.size (w2.alloc (.cells #[.string k1, .int .i64 q1, .bool g1, .string v1, .int .i64 u1] 45)) w5 →
            Cell1 w5 w.heap.size 33 (.slice p j d) ∧ Cell1 (w5.setCell ⟨w.heap.size, 0, none⟩ (.slice a1 (j + 1) c1)) w.heap.size 33 (.slice a1 (j + 1) c1) ∧ Cell1 (w5.setCell ⟨w.heap.size, 0, none⟩ (.slice a1 (j + 1) c1)) (w.heap.size + 1) 28 (.int .i64 0) ∧
            RBox (w5.setCell ⟨w.heap.size, 0, none⟩ (.slice a1 (j + 1) c1)) (w.heap.size + 1 + 1) s r.next ∧
            (w5.setCell ⟨w.heap.size, 0, none⟩ (.slice a1 (j + 1) c1)).ownsRow w.heap.size 45 5 (.slice a1 (j + 1) c1) (j + 1) (ecells (acc ++ [r.x])) ∧ Below w.heap.size w (w5.setCell ⟨w.heap.size, 0, none⟩ (.slice a1 (j + 1) c1)) := by
          intro w2 a1 c1 w5 hx2 ho2 hq hk hb
          have hA2 : Cell1 w2 _ _ _ := Cell1.only (w := wr.drew) HA.out ho2 (by omega)
          have hE2 : Cell1 w2 _ _ _ := Cell1.only (w := wr.drew) HE.out ho2 (by omega)
          have hA5 : Cell1 w5 _ _ _ := Cell1.keeps (blk_alloc hA2) hk (by decide)
          have hE5 : Cell1 w5 _ _ _ := Cell1.keeps (blk_alloc hE2) hk (by decide)
          have hX5 : RBox w5 (w.heap.size + 1 + 1) s r.next := keep_blk hk (blk_alloc hx2) (by decide)
          have hB2 : Below w.heap.size w w2 := Only.below (a := wr.drew) hbel.drew ho2 (by omega) (by have := hbel.size; exact this)
          refine ⟨hA5, hA5.set _, hE5.far (by simp) _, (Below.heap_setCell w5 _ _ _ (by show w.heap.size + 1 + 1 ≠ w.heap.size; omega)).trans hX5, ?_, ((below_alloc hB2 _).trans hb).setCell (p := ⟨w.heap.size, 0, none⟩) (Nat.le_refl _) _⟩
          rw [ecells_snoc, HX2.out]
          exact own_setOther hq hA5 (by decide) _
        go_wp2_with fail
        refine wp_region_any (by kernel_rfl) ?_
        (try (change wpAny _ _ _ _ _ _ _ (World.drew _)))
        refine wpAny_ready (rs := [0, 1]) (by kernel_rfl) (by simp) ?_
        refine AllReady.cons rfl (fun K hK => ?_) (AllReady.cons rfl (fun K hK => ?_) AllReady.nil)
        · go_simp
          refine hK _ _ ?_
          clear hK K
          refine wpAny_ready (rs := [1]) (by kernel_rfl) (by simp) ?_
          refine AllReady.cons rfl (fun K hK => ?_) AllReady.nil
          go_simp
          refine hK _ _ ?_
          clear hK K
          refine wpAny_ready (rs := [2]) (by kernel_rfl) (by simp) ?_
          refine AllReady.cons rfl (fun K hK => ?_) AllReady.nil
          go_simp
          refine HII.out.mono ?_
          rintro e w2 ⟨rfl, hx2, ho2⟩
          have hA2 : Cell1 w2 _ _ _ := Cell1.only (w := wr.drew) HA.out ho2 (by omega)
          have ca2 := hA2.cell
          have hl2 := hA2.lt
          have HO2 := Lib.hid (Only.own (own_drew HO.out) ho2 hnr)
          have HB2 := Lib.hid (show Below w.heap.size w w2 from Only.below (a := wr.drew) hbel.drew ho2 (by omega) (by have := hbel.size; exact this))
          have HXX2 := Lib.hid hx2
          have HOO2 := Lib.hid ho2
          clear hx2 ho2 hA2
          go_simp
          refine hK _ _ ?_
          clear hK K
          refine wpAny_ready (rs := [3]) (by kernel_rfl) (by simp) ?_
          refine AllReady.cons rfl (fun K hK => ?_) AllReady.nil
          go_simp
          refine hK _ _ ?_
          clear hK K
          refine wpAny_ready (rs := [4]) (by kernel_rfl) (by simp) ?_
          refine AllReady.cons rfl (fun K hK => ?_) AllReady.nil
          refine step_push (B := w.heap.size) (n := j) (xs := ecells acc) (v := .slice p j d) rfl _ _ 33 rfl Tryz.underlying33 infoApi rfl (by decide) rfl #[.string k1, .int .i64 q1, .bool g1, .string v1, .int .i64 u1] rfl (by simp [Value.oneCell']) rfl (heap_alloc_new _ _) (HO2.out.alloc _) (by have := HB2.out.size; simp; omega) (by unfold maxLen; omega) (by omega) ?_
          intro a1 c1 w5 hq hk hb
          have hfin := hrelW w2 a1 c1 w5 HXX2.out HOO2.out hq hk hb
          have ca5 := hfin.1.cell
          have fa5 := hfin.1.fz
          have HF := Lib.hid hfin.2
          clear hfin hq hk hb
          go_simp
          refine hK _ _ ?_
          clear hK K
          refine wpAny_ready (rs := [5]) (by kernel_rfl) (by simp) ?_
          refine AllReady.cons rfl (fun K hK => ?_) AllReady.nil
          go_simp
          refine hK _ _ ?_
          clear hK K
          refine wpAny_done (by kernel_rfl) ?_ _
          go_wp2_with fail
          go_roundw
          case rel => exact ⟨j + 1, r.next, acc ++ [r.x], a1, c1, by go_num, by omega, HF.out.1, HF.out.2.1, HF.out.2.2.1, HF.out.2.2.2.1, by show itemsS s m a0 [] = _; rw [HST.out, show m - (j + 1) = k from by have := HK.out; omega], HF.out.2.2.2.2⟩
          case measure => simp [intOf]; omega
        · go_simp
          refine hK _ _ ?_
          clear hK K
          refine wpAny_ready (rs := [0, 2]) (by kernel_rfl) (by simp) ?_
          refine AllReady.cons rfl (fun K hK => ?_) (AllReady.cons rfl (fun K hK => ?_) AllReady.nil)
          · go_simp
            refine hK _ _ ?_
            clear hK K
            refine wpAny_ready (rs := [2]) (by kernel_rfl) (by simp) ?_
            refine AllReady.cons rfl (fun K hK => ?_) AllReady.nil
            go_simp
            refine HII.out.mono ?_
            rintro e w2 ⟨rfl, hx2, ho2⟩
            have hA2 : Cell1 w2 _ _ _ := Cell1.only (w := wr.drew) HA.out ho2 (by omega)
            have ca2 := hA2.cell
            have hl2 := hA2.lt
            have HO2 := Lib.hid (Only.own (own_drew HO.out) ho2 hnr)
            have HB2 := Lib.hid (show Below w.heap.size w w2 from Only.below (a := wr.drew) hbel.drew ho2 (by omega) (by have := hbel.size; exact this))
            have HXX2 := Lib.hid hx2
            have HOO2 := Lib.hid ho2
            clear hx2 ho2 hA2
            go_simp
            refine hK _ _ ?_
            clear hK K
            refine wpAny_ready (rs := [3]) (by kernel_rfl) (by simp) ?_
            refine AllReady.cons rfl (fun K hK => ?_) AllReady.nil
            go_simp
            refine hK _ _ ?_
            clear hK K
            refine wpAny_ready (rs := [4]) (by kernel_rfl) (by simp) ?_
            refine AllReady.cons rfl (fun K hK => ?_) AllReady.nil
            refine step_push (B := w.heap.size) (n := j) (xs := ecells acc) (v := .slice p j d) rfl _ _ 33 rfl Tryz.underlying33 infoApi rfl (by decide) rfl #[.string k1, .int .i64 q1, .bool g1, .string v1, .int .i64 u1] rfl (by simp [Value.oneCell']) rfl (heap_alloc_new _ _) (HO2.out.alloc _) (by have := HB2.out.size; simp; omega) (by unfold maxLen; omega) (by omega) ?_
            intro a1 c1 w5 hq hk hb
            have hfin := hrelW w2 a1 c1 w5 HXX2.out HOO2.out hq hk hb
            have ca5 := hfin.1.cell
            have fa5 := hfin.1.fz
            have HF := Lib.hid hfin.2
            clear hfin hq hk hb
            go_simp
            refine hK _ _ ?_
            clear hK K
            refine wpAny_ready (rs := [5]) (by kernel_rfl) (by simp) ?_
            refine AllReady.cons rfl (fun K hK => ?_) AllReady.nil
            go_simp
            refine hK _ _ ?_
            clear hK K
            refine wpAny_done (by kernel_rfl) ?_ _
            go_wp2_with fail
            go_roundw
            case rel => exact ⟨j + 1, r.next, acc ++ [r.x], a1, c1, by go_num, by omega, HF.out.1, HF.out.2.1, HF.out.2.2.1, HF.out.2.2.2.1, by show itemsS s m a0 [] = _; rw [HST.out, show m - (j + 1) = k from by have := HK.out; omega], HF.out.2.2.2.2⟩
            case measure => simp [intOf]; omega
          · go_simp
            refine HII.out.mono ?_
            rintro e w2 ⟨rfl, hx2, ho2⟩
            have hA2 : Cell1 w2 _ _ _ := Cell1.only (w := wr.drew) HA.out ho2 (by omega)
            have ca2 := hA2.cell
            have hl2 := hA2.lt
            have HO2 := Lib.hid (Only.own (own_drew HO.out) ho2 hnr)
            have HB2 := Lib.hid (show Below w.heap.size w w2 from Only.below (a := wr.drew) hbel.drew ho2 (by omega) (by have := hbel.size; exact this))
            have HXX2 := Lib.hid hx2
            have HOO2 := Lib.hid ho2
            clear hx2 ho2 hA2
            go_simp
            refine hK _ _ ?_
            clear hK K
            refine wpAny_ready (rs := [0, 3]) (by kernel_rfl) (by simp) ?_
            refine AllReady.cons rfl (fun K hK => ?_) (AllReady.cons rfl (fun K hK => ?_) AllReady.nil)
            · go_simp
              refine hK _ _ ?_
              clear hK K
              refine wpAny_ready (rs := [3]) (by kernel_rfl) (by simp) ?_
              refine AllReady.cons rfl (fun K hK => ?_) AllReady.nil
              go_simp
              refine hK _ _ ?_
              clear hK K
              refine wpAny_ready (rs := [4]) (by kernel_rfl) (by simp) ?_
              refine AllReady.cons rfl (fun K hK => ?_) AllReady.nil
              refine step_push (B := w.heap.size) (n := j) (xs := ecells acc) (v := .slice p j d) rfl _ _ 33 rfl Tryz.underlying33 infoApi rfl (by decide) rfl #[.string k1, .int .i64 q1, .bool g1, .string v1, .int .i64 u1] rfl (by simp [Value.oneCell']) rfl (heap_alloc_new _ _) (HO2.out.alloc _) (by have := HB2.out.size; simp; omega) (by unfold maxLen; omega) (by omega) ?_
              intro a1 c1 w5 hq hk hb
              have hfin := hrelW w2 a1 c1 w5 HXX2.out HOO2.out hq hk hb
              have ca5 := hfin.1.cell
              have fa5 := hfin.1.fz
              have HF := Lib.hid hfin.2
              clear hfin hq hk hb
              go_simp
              refine hK _ _ ?_
              clear hK K
              refine wpAny_ready (rs := [5]) (by kernel_rfl) (by simp) ?_
              refine AllReady.cons rfl (fun K hK => ?_) AllReady.nil
              go_simp
              refine hK _ _ ?_
              clear hK K
              refine wpAny_done (by kernel_rfl) ?_ _
              go_wp2_with fail
              go_roundw
              case rel => exact ⟨j + 1, r.next, acc ++ [r.x], a1, c1, by go_num, by omega, HF.out.1, HF.out.2.1, HF.out.2.2.1, HF.out.2.2.2.1, by show itemsS s m a0 [] = _; rw [HST.out, show m - (j + 1) = k from by have := HK.out; omega], HF.out.2.2.2.2⟩
              case measure => simp [intOf]; omega
            · go_simp
              refine hK _ _ ?_
              clear hK K
              refine wpAny_ready (rs := [0]) (by kernel_rfl) (by simp) ?_
              refine AllReady.cons rfl (fun K hK => ?_) AllReady.nil
              go_simp
              refine hK _ _ ?_
              clear hK K
              refine wpAny_ready (rs := [4]) (by kernel_rfl) (by simp) ?_
              refine AllReady.cons rfl (fun K hK => ?_) AllReady.nil
              refine step_push (B := w.heap.size) (n := j) (xs := ecells acc) (v := .slice p j d) rfl _ _ 33 rfl Tryz.underlying33 infoApi rfl (by decide) rfl #[.string k1, .int .i64 q1, .bool g1, .string v1, .int .i64 u1] rfl (by simp [Value.oneCell']) rfl (heap_alloc_new _ _) (HO2.out.alloc _) (by have := HB2.out.size; simp; omega) (by unfold maxLen; omega) (by omega) ?_
              intro a1 c1 w5 hq hk hb
              have hfin := hrelW w2 a1 c1 w5 HXX2.out HOO2.out hq hk hb
              have ca5 := hfin.1.cell
              have fa5 := hfin.1.fz
              have HF := Lib.hid hfin.2
              clear hfin hq hk hb
              go_simp
              refine hK _ _ ?_
              clear hK K
              refine wpAny_ready (rs := [5]) (by kernel_rfl) (by simp) ?_
              refine AllReady.cons rfl (fun K hK => ?_) AllReady.nil
              go_simp
              refine hK _ _ ?_
              clear hK K
              refine wpAny_done (by kernel_rfl) ?_ _
              go_wp2_with fail
              go_roundw
              case rel => exact ⟨j + 1, r.next, acc ++ [r.x], a1, c1, by go_num, by omega, HF.out.1, HF.out.2.1, HF.out.2.2.1, HF.out.2.2.2.1, by show itemsS s m a0 [] = _; rw [HST.out, show m - (j + 1) = k from by have := HK.out; omega], HF.out.2.2.2.2⟩
              case measure => simp [intOf]; omega
      · have HI := Lib.hid (fun (W : World) (hX : RBox W (w.heap.size + 1 + 1) s a) => item_bad hs hr.symm h1 W hX)
        have hRe : R = ⟨[], 0, r.e⟩ := by rw [HR.out, HST.out, if_pos h1]
        have HRE := Lib.hid hRe
        clear hRe hr
        go_wp2_with fail
        have HII := Lib.hid (HI.out wr.drew HX.out)
        have door : ∀ (T : Array Value) (w2 : World), T.getD 2 undef = .pointer (some ⟨w.heap.size, 0, none⟩) → T.getD 3 undef = .pointer (some ⟨w.heap.size + 1, 0, none⟩) → Only (w.heap.size + 1 + 1) wr.drew w2 →
            bodyPostD Tryz.prog Tryz.f14 (GotD w X) (.panic [{ v := .iface 94 (.int .i64 r.e), recovered := false }])
              { tmps := T, defers := [{ target := .fn (.func 50) #[.pointer (some ⟨w.heap.size, 0, none⟩), .pointer (some ⟨w.heap.size + 1, 0, none⟩)], args := #[] }] } w2 := by
          intro T w2 h2 h3 ho
          have hXe : X = ([], r.e) := by rw [HXX.out, HRE.out, if_pos h1]
          rw [hXe]
          have hA2 : Cell1 w2 _ _ _ := Cell1.only (w := wr.drew) HA.out ho (by omega)
          have hE2 : Cell1 w2 _ _ _ := Cell1.only (w := wr.drew) HE.out ho (by omega)
          exact door_bad h2 h3 hA2 hE2 (Only.below (a := wr.drew) hbel.drew ho (by omega) (by have := hbel.size; exact this))
        refine wp_region_any (by kernel_rfl) ?_
        (try (change wpAny _ _ _ _ _ _ _ (World.drew _)))
        refine wpAny_ready (rs := [0, 1]) (by kernel_rfl) (by simp) ?_
        refine AllReady.cons rfl (fun K hK => ?_) (AllReady.cons rfl (fun K hK => ?_) AllReady.nil)
        · go_simp
          refine hK _ _ ?_
          clear hK K
          refine wpAny_ready (rs := [1]) (by kernel_rfl) (by simp) ?_
          refine AllReady.cons rfl (fun K hK => ?_) AllReady.nil
          go_simp
          refine hK _ _ ?_
          clear hK K
          refine wpAny_ready (rs := [2]) (by kernel_rfl) (by simp) ?_
          refine AllReady.cons rfl (fun K hK => ?_) AllReady.nil
          go_simp
          refine HII.out.mono ?_
          rintro e w2 ⟨rfl, ho⟩
          go_simp
          exact door _ _ rfl rfl ho
        · go_simp
          refine hK _ _ ?_
          clear hK K
          refine wpAny_ready (rs := [0, 2]) (by kernel_rfl) (by simp) ?_
          refine AllReady.cons rfl (fun K hK => ?_) (AllReady.cons rfl (fun K hK => ?_) AllReady.nil)
          · go_simp
            refine hK _ _ ?_
            clear hK K
            refine wpAny_ready (rs := [2]) (by kernel_rfl) (by simp) ?_
            refine AllReady.cons rfl (fun K hK => ?_) AllReady.nil
            go_simp
            refine HII.out.mono ?_
            rintro e w2 ⟨rfl, ho⟩
            go_simp
            exact door _ _ rfl rfl ho
          · go_simp
            refine HII.out.mono ?_
            rintro e w2 ⟨rfl, ho⟩
            go_simp
            exact door _ _ rfl rfl ho
    · obtain rfl : j = m := by omega
      have hln := (own_erow hown).2.1
      have hR2 : R = ⟨acc, a, 0⟩ := by rw [HR.out, hit.out, Nat.sub_self]; rfl
      subst hln
      obtain ⟨x0, x1, x2⟩ := hX.cells
      by_cases hls : a < (s.size : Int)
      · have hXe : X = ([], 4) := by rw [HXX.out, hR2]; simp [hls]
        subst hXe
        have hd : decide (a < (s.size : Int)) = true := dt hls
        have hE2 := hE.far (p := ⟨w.heap.size, 0, none⟩) (by simp) (.slice none 0 0)
        have HE2 := Lib.hid hE2
        have fa := hA.fz
        have ce := hE2.cell
        have fe := hE2.fz
        clear hR2 hA hE hX hown hit hE2 hls
        go_wp2_with fail
        exact door_ret (a := none) (c := 0) rfl rfl ((HA.out.set _).far (by simp) _) (HE2.out.set _) ((hbel.setCell (p := ⟨w.heap.size, 0, none⟩) (Nat.le_refl _) _).setCell (p := ⟨w.heap.size + 1, 0, none⟩) (by simp) _) (World.ownsRow_nil _ _ _ _)
      · have hXe : X = (acc, 0) := by rw [HXX.out, hR2]; simp [hls]
        subst hXe
        have hd : decide (a < (s.size : Int)) = false := df hls
        have hE2 := hE.far (p := ⟨w.heap.size, 0, none⟩) (by simp) (.slice p acc.length d)
        have HE2 := Lib.hid hE2
        have fa := hA.fz
        have ce := hE2.cell
        have fe := hE2.fz
        clear hR2 hA hE hX hown hit hE2 hls
        go_wp2_with fail
        exact door_ret (a := p) (c := d) rfl rfl ((HA.out.set _).far (by simp) _) (HE2.out.set _) ((hbel.setCell (p := ⟨w.heap.size, 0, none⟩) (Nat.le_refl _) _).setCell (p := ⟨w.heap.size + 1, 0, none⟩) (by simp) _)
          (own_setOther (own_setOther HO.out HA.out (by decide) _) (HE2.out) (by decide) _)

theorem bget_any (s : ByteArray) (hs : s.size ≤ 4611686018427387904) (w : World) : Calls Tryz.prog 14 #[.string s] w (GotD w (getE s)) := by
  unfold getE
  by_cases h1 : (cntS s 0).e = 0
  · rw [if_neg (by simp [h1])]
    by_cases h2 : 64 < (cntS s 0).n
    · rw [if_pos h2]
      exact bget_long s hs rfl h1 h2 w
    · rw [if_neg h2]
      have hb := cntS_bd h1
      obtain ⟨m, hm⟩ := Int.eq_ofNat_of_zero_le hb.1
      have hc : cntS s 0 = ⟨(m : Int), (cntS s 0).next, 0⟩ := by
        generalize cntS s 0 = c at h1 hm
        obtain ⟨cn, cx, ce⟩ := c
        simp only at h1 hm
        subst h1 hm
        rfl
      have := bget_run s hs m (cntS s 0).next hc (by omega) w
      rw [hm, Int.toNat_natCast]
      exact this
  · rw [if_pos h1]
    exact bget_bad s hs h1 w
end Go.Proofs.YtpihmjdljbienaaGreatDoor.Bw
